import Derived.Test.YtcmhbjnmjfhgaaaGreatDoorLSA
import Derived.Test.YtcmhbjnmjfhgaaaGreatDoorLSB
namespace Go.Proofs.TM
open Go Go.Proofs
set_option maxHeartbeats 1000000
theorem and255u (x:Int):0≤bitV .and .u64 x 255∧bitV .and .u64 x 255≤255:=by
 have h:((BitVec.ofInt 64 x) &&& (BitVec.ofInt 64 255)).toNat≤255:=by
  rw[BitVec.toNat_and];exact Nat.le_trans Nat.and_le_right (by decide)
 have e:bitV .and .u64 x 255=IntKind.u64.wrap (((BitVec.ofInt 64 x) &&& (BitVec.ofInt 64 255)).toNat:Int):=rfl
 rw[e]
 generalize ((BitVec.ofInt 64 x) &&& (BitVec.ofInt 64 255)).toNat=m at h
 rw[IntKind.wrap_u64];omega
theorem next_out (c:List Bt) (a s:Int) (h0:0≤a) (h1:a≤1000000):∃ s' v,spec_l00Src_next_o9d c a s=some (c,a+1,s',v)∧0≤v∧v≤255:=by
 have hp:∀ b:Int,0≤b→b≤255→∃ s' v,spec_l00Src_next_o9d_p1 c a s b=some (c,a+1,s',v)∧0≤v∧v≤255:=fun b hb hb'=>by
  unfold spec_l00Src_next_o9d_p1
  rw[wrap_in (n:=a+1) (by omega) (by omega)]
  split
  ·exact⟨_,_,rfl,hb,hb'⟩
  ·have:=and255u (shrV .u64 (IntKind.u64.wrap (IntKind.u64.wrap (IntKind.u64.wrap (s*6364136223846793005)+IntKind.u64.wrap b)+1442695040888963407)) 40)
   exact⟨_,_,rfl,by rw[wrap_in (by omega) (by omega)];exact this.1,by rw[wrap_in (by omega) (by omega)];exact this.2⟩
 unfold spec_l00Src_next_o9d
 by_cases h:a<(c.length:Int)
 ·rw[if_pos h,if_pos h0]
  obtain⟨x,hx⟩:=get_at (l:=c) (i:=a.toNat) (by omega)
  have hb:(x.v.toNat:Int)≤255:=by have:=x.v.toNat_lt;omega
  rw[hx,obs,wrap_in (n:=(x.v.toNat:Int)) (by omega) (by omega)]
  obtain⟨s',v,e,h2⟩:=hp x.v.toNat (by omega) hb
  exact⟨s',v,by rw[e];rfl,h2⟩
 ·rw[if_neg h]
  obtain⟨s',v,e,h2⟩:=hp 0 (by omega) (by omega)
  exact⟨s',v,by rw[e];rfl,h2⟩
theorem pick_out (c:List Bt) (a s n:Int) (h0:0≤a) (h1:a≤999999):∃ a' s' v,spec_l00Src_pick_o30 c a s n=some (c,a',s',v)∧(a≤a'∧a'≤a+2)∧0≤v∧(v<n∨v=0):=by
 unfold spec_l00Src_pick_o30
 by_cases hn:n≤1
 ·rw[if_pos hn];exact⟨a,s,0,rfl,by omega,by omega,.inr rfl⟩
 rw[if_neg hn]
 obtain⟨s1,v1,e1,l1,u1⟩:=next_out c a s h0 (by omega)
 rw[e1,obs]
 have hz:¬n=0:=by omega
 have tm:∀ v:Int,0≤v→0≤Int.tmod v n∧Int.tmod v n<n:=fun v hv=>by
  rw[Int.tmod_eq_emod_of_nonneg hv]
  exact⟨Int.emod_nonneg _ (by omega),Int.emod_lt_of_pos _ (by omega)⟩
 by_cases h2:n>200
 ·rw[if_pos h2]
  obtain⟨s2,v2,e2,l2,u2⟩:=next_out c (a+1) s1 (by omega) (by omega)
  simp only
  rw[e2,obs,if_neg hz]
  have e3:IntKind.i64.wrap (v1*256)=v1*256:=wrap_in (by omega) (by omega)
  have e4:IntKind.i64.wrap (v1*256+v2)=v1*256+v2:=wrap_in (by omega) (by omega)
  have:=tm (v1*256+v2) (by omega)
  refine⟨a+1+1,s2,_,rfl,by omega,?_,?_⟩
  ·simp only[e3,e4];exact this.1
  ·simp only[e3,e4];exact .inl this.2
 ·rw[if_neg h2,if_neg hz]
  have:=tm v1 l1
  exact⟨a+1,s1,_,rfl,by omega,this.1,.inl this.2⟩
theorem one_out (c:List Bt) (a s n:Int) (h0:0≤a) (h1:a≤999999):∃ a' s' b,spec_l00Src_one_o30 c a s n=some (c,a',s',b)∧(a≤a'∧a'≤a+2):=by
 obtain⟨a',s',v,e,h2,_⟩:=pick_out c a s n h0 h1
 exact⟨a',s',_,by unfold spec_l00Src_one_o30;rw[e];rfl,h2⟩
theorem among_out (c:List Bt) (a s:Int) (l:List Int) (hl:0<l.length) (h0:0≤a) (h1:a≤999999):∃ a' s' x,spec_l00Src_among_o72 c a s l=some (c,a',s',l,x)∧(a≤a'∧a'≤a+2)∧x∈l:=by
 obtain⟨a',s',v,e,h2,h3,h4⟩:=pick_out c a s l.length h0 h1
 obtain⟨x,hx⟩:=get_at (l:=l) (i:=v.toNat) (by omega)
 refine⟨a',s',x,?_,h2,List.mem_of_getElem? hx⟩
 unfold spec_l00Src_among_o72
 rw[e,obs]
 simp only
 rw[if_pos (by omega),hx];rfl
theorem textS_out (c:List Bt) (a s:Int) (l:List Str) (hl:0<l.length) (h0:0≤a) (h1:a≤999999):∃ a' s' x,spec_l00Src_text_o62 c a s l=some (c,a',s',l,x)∧(a≤a'∧a'≤a+2)∧x∈l:=by
 obtain⟨a',s',v,e,h2,h3,h4⟩:=pick_out c a s l.length h0 h1
 obtain⟨x,hx⟩:=get_at (l:=l) (i:=v.toNat) (by omega)
 refine⟨a',s',x,?_,h2,List.mem_of_getElem? hx⟩
 unfold spec_l00Src_text_o62
 rw[e,obs]
 simp only
 rw[if_pos (by omega),hx];rfl
def DD (l:List Int):Prop:=l.length≤3∧((∀ x∈l,0≤x∧x≤8)∨(l.length=1∧∀ x∈l,0≤x∧x≤40))
theorem DD.prod {l:List Int} (h:DD l):0≤prodW l∧prodW l≤512:=by
 obtain⟨h1,h2⟩:=h
 have wr:∀ z:Int,0≤z→z≤512→IntKind.i64.wrap z=z:=fun z a b=>wrap_in (by omega) (by omega)
 match l,h1 with
 |[],_=>exact⟨by decide,by decide⟩
 |[a],_ =>
  have:0≤a∧a≤40:=by rcases h2 with h |h;have:=h a (by simp);omega;exact h.2 a (by simp)
  have e:prodW [a]=IntKind.i64.wrap (1*a):=rfl
  rw[e,Int.one_mul,wr a (by omega) (by omega)];omega
 |[a,b],_ =>
  rcases h2 with h |h
  ·have ha:=h a (by simp)
   have hb:=h b (by simp)
   have e:prodW [a,b]=IntKind.i64.wrap (IntKind.i64.wrap (1*a)*b):=rfl
   have hab:0≤a*b∧a*b≤64:=⟨Int.mul_nonneg ha.1 hb.1,by have:=Int.mul_le_mul ha.2 hb.2 hb.1 (by omega:(0:Int)≤8);omega⟩
   rw[e,Int.one_mul,wr a (by omega) (by omega),wr _ (by omega) (by omega)];omega
  ·have:=h.1;simp at this
 |[a,b,c],_ =>
  rcases h2 with h |h
  ·have ha:=h a (by simp)
   have hb:=h b (by simp)
   have hc:=h c (by simp)
   have e:prodW [a,b,c]=IntKind.i64.wrap (IntKind.i64.wrap (IntKind.i64.wrap (1*a)*b)*c):=rfl
   have hab:0≤a*b∧a*b≤64:=⟨Int.mul_nonneg ha.1 hb.1,by have:=Int.mul_le_mul ha.2 hb.2 hb.1 (by omega:(0:Int)≤8);omega⟩
   have habc:0≤a*b*c∧a*b*c≤512:=⟨Int.mul_nonneg hab.1 hc.1,by have:=Int.mul_le_mul hab.2 hc.2 hc.1 (by omega:(0:Int)≤64);omega⟩
   rw[e,Int.one_mul,wr a (by omega) (by omega),wr (a*b) (by omega) (by omega),wr (a*b*c) (by omega) (by omega)];omega
  ·have:=h.1;simp at this
theorem DD.vd {l:List Int} (h:DD l):VD l :=
 ⟨h.1,fun x hx=>by rcases h.2 with g |g;have:=g x hx;omega;exact g.2 x hx,by have:=h.prod;omega⟩
theorem drwP2_out (c:List Bt) (a s k:Int) (l:List Int) (x:Int) (h:l.length≤1000):spec_l05Draw_o30_p2 c a s k l x=some (c,a,s,k,l++[x]):=by
 unfold spec_l05Draw_o30_p2
 rw[appL_one 8 _ _ (by unfold maxRow;omega),obs]
theorem drw_out (c:List Bt) (a s r:Int) (h0:0≤a) (h1:a≤900000) (hr:0≤r) (hr3:r≤3):∃ a' s' l,spec_l05Draw_o30 c a s r=some (c,a',s',l)∧(a≤a'∧a'≤a+30)∧DD l:=by
 unfold spec_l05Draw_o30 spec_l05Draw_o30_l1
 have key:=loop_ex (f:=fun t:List Bt×Int×Int×Int×List Int=>spec_l05Draw_o30_l1_b t.1 t.2.1 t.2.2.1 t.2.2.2.1 t.2.2.2.2) (fun q=>∃ a' s' l,q=(c,a',s',l)∧(a≤a'∧a'≤a+18)∧l.length≤3∧∀ x∈l,0≤x∧x≤8) r.toNat
  (fun i t=>∃ a' s' l,t=(c,a',s',r-i,l)∧(a≤a'∧a'≤a+6*i)∧l.length=i∧∀ x∈l,0≤x∧x≤8) (fun i t hi ht=>?_) r.toNat 0 (c,a,s,r,[]) (by omega) ⟨a,s,[],by simp,by omega,rfl,by simp⟩
 ·obtain⟨q,hq,a1,s1,l,rfl,ha1,hl,hx⟩:=key
  rw[hq,obs]
  simp only
  by_cases h1l:((l.length:Nat):Int)=1
  ·rw[if_pos h1l]
   obtain⟨a2,s2,b,e2,ha2⟩:=one_out c a1 s1 6 (by omega) (by omega)
   rw[e2,obs]
   cases b with
   |true =>
    simp only[if_true]
    obtain⟨a3,s3,x,e3,ha3,hx3⟩:=among_out c a2 s2 (lit [40,39,17]) (by unfold lit;simp) (by omega) (by omega)
    rw[e3,obs]
    simp only[if_true]
    obtain⟨y,rfl⟩:∃ y,l=[y]:=by
     match l,h1l with
     |[y],_=>exact⟨y,rfl⟩
     |_::_::_,h=>simp only[List.length_cons] at h;omega
    simp only[List.length_singleton,Int.toNat_zero,List.getElem?_cons_zero,obs]
    refine⟨a3,s3,[x],by simp,by omega,by simp,.inr ⟨rfl,fun z hz=>?_⟩⟩
    rw[List.mem_singleton] at hz
    subst hz
    unfold lit at hx3
    simp only[List.mem_cons,List.not_mem_nil,or_false] at hx3
    omega
   |false =>
    simp only[Bool.false_eq_true,if_false]
    exact⟨a2,s2,l,rfl,by omega,hl,.inl hx⟩
  ·rw[if_neg h1l];exact⟨a1,s1,l,rfl,by omega,hl,.inl hx⟩
 ·obtain⟨a1,s1,l,rfl,ha1,hl,hx⟩:=ht
  unfold spec_l05Draw_o30_l1_b
  simp only
  by_cases hn:i<r.toNat
  ·rw[if_pos (by omega)]
   obtain⟨a2,s2,v,e2,ha2,v0,v1⟩:=pick_out c a1 s1 6 (by omega) (by omega)
   rw[e2,obs]
   simp only
   obtain⟨a3,s3,b,e3,ha3⟩:=one_out c a2 s2 8 (by omega) (by omega)
   rw[e3,obs]
   cases b with
   |true =>
    simp only[if_true]
    obtain⟨a4,s4,u,e4,ha4,u0,u1⟩:=pick_out c a3 s3 9 (by omega) (by omega)
    rw[e4,obs]
    simp only
    rw[drwP2_out _ _ _ _ _ _ (by omega),obs]
    refine .inr ⟨hn,_,rfl,a4,s4,l++[u],?_,by omega,by simp[hl],fun x hm=>?_⟩
    ·simp only;rw[wrap_in (by omega) (by omega)];simp only[Prod.mk.injEq,true_and,and_true];omega
    ·rcases List.mem_append.1 hm with hm |hm
     ·exact hx x hm
     ·rw[List.mem_singleton] at hm;subst hm;omega
   |false =>
    simp only[Bool.false_eq_true,if_false]
    rw[drwP2_out _ _ _ _ _ _ (by omega),obs]
    refine .inr ⟨hn,_,rfl,a3,s3,l++[IntKind.i64.wrap (1+v)],?_,by omega,by simp[hl],fun x hm=>?_⟩
    ·simp only;rw[wrap_in (n:=r-i-1) (by omega) (by omega)];simp only[Prod.mk.injEq,true_and,and_true];omega
    ·rcases List.mem_append.1 hm with hm |hm
     ·exact hx x hm
     ·rw[List.mem_singleton,wrap_in (by omega) (by omega)] at hm;subst hm;omega
  ·rw[if_neg (by omega)]
   exact .inl ⟨_,rfl,a1,s1,l,rfl,by omega,by omega,hx⟩
theorem drwDims_out (c:List Bt) (a s:Int) (h0:0≤a) (h1:a≤800000):∃ a' s' l,spec_l05DrawDims_o9d c a s=some (c,a',s',l)∧(a≤a'∧a'≤a+40)∧DD l:=by
 unfold spec_l05DrawDims_o9d
 obtain⟨a1,s1,x,e1,ha1,hx⟩:=among_out c a s (lit [1,1,2,2,2,3,3,0]) (by unfold lit;simp) h0 (by omega)
 rw[e1,obs]
 simp only[if_true]
 unfold lit at hx
 simp only[List.mem_cons,List.not_mem_nil,or_false] at hx
 obtain⟨a2,s2,l,e2,ha2,hl⟩:=drw_out c a1 s1 x (by omega) (by omega) (by omega) (by omega)
 rw[e2,obs]
 exact⟨a2,s2,l,rfl,by omega,hl⟩
def mB (m:Int):Int:=if m=-1 then 255 else m
def eE (p:Int×Int):Str:=leB p.1 1++leB (mB p.2) 1
def eS (s:DSpc):Str:=leB s.1.length 1++((s.1.zip s.2).map eE).flatten
theorem eEs_len (l:List (Int×Int)):((l.map eE).flatten).length=2*l.length:=by
 induction l with
 |nil=>rfl
 |cons f l ih=>rw[List.map_cons,List.flatten_cons,List.length_append,ih,List.length_cons];simp[eE];omega
theorem eS_len {s:DSpc} (h:VS s):(eS s).length≤7:=by
 obtain⟨z1,z2,_⟩:=h.zip
 unfold eS;rw[List.length_append,eEs_len,leB_length];omega
theorem zipT {s:DSpc} {i:Nat} {p:Int×Int} (h:(s.1.zip s.2)[i]?=some p):((s.1.zip s.2).take (i+1)).map eE=((s.1.zip s.2).take i).map eE++[eE p]:=by
 rw[List.take_add_one,h];simp
theorem encI_out (s:DSpc) (h:VS s):impl_EncodeSpace s=some (eS s):=by
 obtain⟨z1,z2,z3⟩:=h.zip
 unfold impl_EncodeSpace impl_Space_encode impl_Space_encode_l1
 obtain⟨b,hb,hv⟩:=iSpace_out s
 rw[hb,obs,hv.2 h,if_neg (not_not_intro rfl),put1,obs,loop_some (r:=eS s) s.1.length (fun i t=>t=(leB s.1.length 1++(((s.1.zip s.2).take i).map eE).flatten,(i:Int))) (fun i t hi ht=>?_) s.1.length 0 (leB s.1.length 1,0) (by omega) (by simp),obs,obs]
 subst ht
 unfold impl_Space_encode_l1_b
 simp only
 by_cases hn:i<s.1.length
 ·obtain⟨p,hp⟩:=get_at (show i<(s.1.zip s.2).length by omega)
  obtain⟨x1,x2⟩:=zip_get hp
  have hl:=eEs_len ((s.1.zip s.2).take i)
  rw[List.length_take] at hl
  rw[if_pos (by omega),if_pos (by omega),Int.toNat_natCast,x1,obs,put1,obs,if_pos (by simp only[List.length_append,leB_length,hl];omega),if_pos (by omega),x2,obs]
  have e:∀ m,mB p.2=m→leB s.1.length 1++(((s.1.zip s.2).take i).map eE).flatten++leB p.1 1++leB m 1=leB s.1.length 1++(((s.1.zip s.2).take (i+1)).map eE).flatten:=fun m hm=>by
   rw[zipT hp,List.flatten_append,List.flatten_cons,List.flatten_nil,List.append_nil]
   unfold eE;rw[hm];simp only[List.append_assoc]
  by_cases hm:p.2=-1
  ·rw[if_pos hm,put1,obs,if_pos (by simp only[List.length_append,leB_length,hl];omega),w1 (by omega),e 255 (by unfold mB;rw[if_pos hm])]
   exact .inr ⟨hn,_,rfl,by push_cast;rfl⟩
  ·rw[if_neg hm,if_pos (by omega),obs,put1,obs,if_pos (by simp only[List.length_append,leB_length,hl];omega),w1 (by omega),e p.2 (by unfold mB;rw[if_neg hm])]
   exact .inr ⟨hn,_,rfl,by push_cast;rfl⟩
 ·have:i=s.1.length:=by omega
  subst this
  rw[if_neg (by omega),← z1,List.take_length,z1];exact .inl rfl
theorem mB_in {p:Int×Int} (h:OkP p):0≤mB p.2∧mB p.2≤255:=by
 have:=h.b
 unfold mB
 split <;> omega
theorem encSp_out (s:DSpc) (h:VS s):spec_EncodeSpace s=some (eS s):=by
 obtain⟨z1,z2,z3⟩:=h.zip
 unfold spec_EncodeSpace spec_EncodeSpace_l1
 obtain⟨b,hb,hv⟩:=sSpace_out s
 rw[hb,obs,hv.2 h,if_neg (not_not_intro rfl),putU1 _ (by omega) (by omega),obs,loop_some (r:=eS s) s.1.length (fun i t=>t=(s,leB s.1.length 1++(((s.1.zip s.2).take i).map eE).flatten,(i:Int))) (fun i t hi ht=>?_) s.1.length 0 (s,leB s.1.length 1,0) (by omega) (by simp),obs]
 subst ht
 unfold spec_EncodeSpace_l1_b
 simp only
 by_cases hn:i<s.1.length
 ·obtain⟨p,hp⟩:=get_at (show i<(s.1.zip s.2).length by omega)
  obtain⟨x1,x2⟩:=zip_get hp
  have hl:=eEs_len ((s.1.zip s.2).take i)
  rw[List.length_take] at hl
  have hok:=z3 p (List.mem_of_getElem? hp)
  have hb:=hok.b
  have hmb:=mB_in hok
  have hp2:∀ m,mB p.2=m→spec_EncodeSpace_p2 s (leB s.1.length 1++(((s.1.zip s.2).take i).map eE).flatten) (i:Int) m=some (s,leB s.1.length 1++(((s.1.zip s.2).take (i+1)).map eE).flatten,(i:Int)):=fun m hm=>by
   unfold spec_EncodeSpace_p2
   rw[if_pos (by omega),Int.toNat_natCast,x1,obs,putU1 _ (by omega) (by omega),obs,putU1 _ (by omega) (by omega),obs,if_pos (by simp),if_pos (by simp only[List.length_append,leB_length,hl];omega)]
   rw[zipT hp,List.flatten_append,List.flatten_cons,List.flatten_nil,List.append_nil]
   unfold eE;rw[hm];simp only[List.append_assoc]
  rw[if_pos (by omega),if_pos (by omega),Int.toNat_natCast,x2,obs]
  by_cases hm:p.2=-1
  ·rw[if_pos hm,hp2 255 (by unfold mB;rw[if_pos hm]),obs,w1 (by omega)]
   exact .inr ⟨hn,_,rfl,by push_cast;rfl⟩
  ·rw[if_neg hm,hp2 p.2 (by unfold mB;rw[if_neg hm]),obs,w1 (by omega)]
   exact .inr ⟨hn,_,rfl,by push_cast;rfl⟩
 ·have:i=s.1.length:=by omega
  subst this
  rw[if_neg (by omega),← z1,List.take_length,z1];exact .inl rfl
theorem dsP2_out (v:RdD) (D M:List Int) (k m:Int) (h:M.length≤1000):impl_decoder_space_od0_p2 v (D,M) k m=some (v,(D,M++[m]),k):=by
 unfold impl_decoder_space_od0_p2
 rw[appL_one 8 _ _ (by unfold maxRow;simp only;omega),obs]
theorem zip_snoc (D M:List Int) (d m:Int) (h:D.length=M.length):((D++[d]).zip (M++[m])).map eE=(D.zip M).map eE++[eE (d,m)]:=by
 rw[List.zip_append h];simp
theorem decS_any (s:Str) (hs:s.length≤1048576):∃ v D M,impl_decoder_space_od0 (s,false)=some (v,(D,M))∧(v.2=false→D.length=M.length∧s=leB D.length 1++((D.zip M).map eE).flatten++v.1):=by
 unfold impl_decoder_space_od0 impl_decoder_space_od0_l1
 rw[iByte_out (s,false) hs,obs]
 have hb:=rdB_in (s,false)
 have hl:=rdN_le (s,false)
 have hst:=@rdN_step (s,false)
 generalize rdN (s,false) 1=p at hb hl hst
 obtain⟨v,n⟩:=p
 simp only at hb hl hst ⊢
 have hI:v.2=false→s=leB n 1++v.1:=fun hv=>by
  obtain⟨_,b,e1,e2⟩:=hst hv
  rw[e2,leB_byte,e1];rfl
 have key:=loop_ex (f:=fun t:RdD×DSpc×Int=>impl_decoder_space_od0_l1_b t.1 t.2.1 t.2.2) (fun q=>q.1.2=false→q.2.1.length=q.2.2.length∧s=leB q.2.1.length 1++((q.2.1.zip q.2.2).map eE).flatten++q.1.1) n.toNat
  (fun i t=>t.1.1.length≤s.length∧t.2.1.1.length=i∧t.2.1.2.length=i∧t.2.2=n-i∧(t.1.2=false→s=leB n 1++((t.2.1.1.zip t.2.1.2).map eE).flatten++t.1.1)) (fun i t hi ht=>?_) n.toNat 0 (v,([],[]),n) (by omega) ⟨hl,rfl,rfl,by simp,fun hv=>by simpa using hI hv⟩
 ·obtain⟨q,hq,hq2⟩:=key
  rw[hq,obs]
  exact⟨q.1,q.2.1,q.2.2,rfl,hq2⟩
 ·obtain⟨v,⟨D,M⟩,k⟩:=t
  obtain⟨h1,h2,h3,rfl,h5⟩:=ht
  simp only at h1 h2 h3 h5
  unfold impl_decoder_space_od0_l1_b
  simp only
  by_cases hn:i<n.toNat
  ·rw[if_pos (by omega)]
   by_cases hv:v.2=true
   ·rw[if_neg (not_not_intro hv)]
    exact .inl ⟨_,rfl,fun h=>by rw[hv] at h;cases h⟩
   ·have l1:=rdN_le v
    have l2:=rdN_le (rdN v 1).1
    have s1:=@rdN_step v
    have s2:=@rdN_step (rdN v 1).1
    rw[if_pos hv,iByte_out v (by omega),obs,appL_one 8 _ _ (by unfold maxRow;omega),obs,iByte_out _ (by omega),obs]
    have fin:∀ m,((rdN (rdN v 1).1 1).1.2=false→mB m=(rdN (rdN v 1).1 1).2)→((rdN (rdN v 1).1 1).1.2=false→s=leB n 1++(((D++[(rdN v 1).2]).zip (M++[m])).map eE).flatten++(rdN (rdN v 1).1 1).1.1):=fun m hm hbd=>by
     obtain⟨b1,y,f1,f2⟩:=s2 hbd
     obtain⟨b2,x,g1,g2⟩:=s1 b1
     rw[zip_snoc _ _ _ _ (by omega),List.flatten_append,List.flatten_cons,List.flatten_nil,List.append_nil]
     have:=h5 b2
     rw[g1,f1] at this
     have ee:eE ((rdN v 1).2,m)=[x]++[y]:=by
      unfold eE;simp only;rw[hm hbd,g2,f2,leB_byte,leB_byte]
     rw[ee,this];simp
    by_cases h255:(rdN (rdN v 1).1 1).2=255
    ·rw[if_pos h255,dsP2_out _ _ _ _ _ (by have:=hb.2;omega),obs]
     refine .inr ⟨hn,_,rfl,by simp only;omega,by simp[h2],by simp[h3],?_,?_⟩
     ·simp only;rw[wrap_in (by omega) (by omega)];push_cast;omega
     ·exact fin (-1) (fun _=>by unfold mB;rw[if_pos rfl,h255])
    ·rw[if_neg h255,dsP2_out _ _ _ _ _ (by have:=hb.2;omega),obs]
     refine .inr ⟨hn,_,rfl,by simp only;omega,by simp[h2],by simp[h3],?_,?_⟩
     ·simp only;rw[wrap_in (by omega) (by omega)];push_cast;omega
     ·have:=rdB_in (rdN v 1).1
      exact fin _ (fun _=>by unfold mB;rw[if_neg (by omega)])
  ·rw[if_neg (by omega)]
   refine .inl ⟨_,rfl,fun hv=>?_⟩
   simp only at hv ⊢
   have:(D.length:Int)=n:=by omega
   rw[this]
   exact⟨by omega,h5 hv⟩
theorem decSI_any (s:Str) (hs:s.length≤1048576):∃ x b,impl_DecodeSpace s=some (x,b)∧(b=true→VS x∧eS x=s):=by
 obtain⟨v,D,M,e,h⟩:=decS_any s hs
 unfold impl_DecodeSpace
 rw[e,obs]
 simp only
 by_cases hv:v.2=true
 ·rw[if_pos hv];exact⟨_,_,rfl,fun h=>by cases h⟩
 rw[if_neg hv]
 by_cases hr:v.1=[]
 ·rw[if_neg (not_not_intro hr)]
  obtain⟨b,hb,hbv⟩:=iSpace_out (D,M)
  rw[hb,obs]
  cases b with
  |false=>exact⟨_,_,by rw[if_pos (by simp)],fun h=>by cases h⟩
  |true =>
   refine⟨(D,M),true,by rw[if_neg (by simp)],fun _=>⟨hbv.1 rfl,?_⟩⟩
   obtain⟨h1,h2⟩:=h (by simpa using hv)
   rw[hr,List.append_nil] at h2
   exact h2.symm
 ·rw[if_pos hr];exact⟨_,_,rfl,fun h=>by cases h⟩
theorem dsD_out (c:List Bt) (a s k m:Int) (x:DSpc) (h:x.2.length≤1000):spec_l05DrawSpace_o9d_p2 c a s x k m=some (c,a,s,(x.1,x.2++[m]),k):=by
 unfold spec_l05DrawSpace_o9d_p2
 rw[appL_one 8 _ _ (by unfold maxRow;omega),obs]
theorem drS_out (c:List Bt) (a s:Int) (h0:0≤a) (h1:a≤700000):∃ a' s' x,spec_l05DrawSpace_o9d c a s=some (c,a',s',x)∧(a≤a'∧a'≤a+60)∧VS x∧DD x.1:=by
 unfold spec_l05DrawSpace_o9d spec_l05DrawSpace_o9d_l1
 obtain⟨a1,s1,d,e1,l1,hd⟩:=drwDims_out c a s h0 (by omega)
 have hd3:=hd.1
 have hb:∀ x∈d,0≤x∧x≤40:=hd.vd.2.1
 rw[e1,obs]
 simp only
 have key:=loop_ex (f:=fun t:List Bt×Int×Int×DSpc×Int=>spec_l05DrawSpace_o9d_l1_b t.1 t.2.1 t.2.2.1 t.2.2.2.1 t.2.2.2.2) (fun q=>∃ a' s' M,q=(c,a',s',(d,M))∧(a≤a'∧a'≤a+60)∧M.length=d.length∧∀ (j:Nat) m z,M[j]?=some m→d[j]?=some z→m=-1∨(z≤m∧m≤40)) d.length
  (fun i t=>∃ a' s' M,t=(c,a',s',(d,M),(i:Int))∧(a≤a'∧a'≤a+40+4*i)∧M.length=i∧∀ (j:Nat) m z,M[j]?=some m→d[j]?=some z→m=-1∨(z≤m∧m≤40)) (fun i t hi ht=>?_) d.length 0 (c,a1,s1,(d,[]),0) (by omega) ⟨a1,s1,[],rfl,by omega,rfl,by simp⟩
 ·obtain⟨q,hq,a2,s2,M,rfl,h2,hM,hall⟩:=key
  rw[hq,obs]
  exact⟨a2,s2,(d,M),rfl,h2,⟨hd.vd,hM,hall⟩,hd⟩
 ·obtain⟨a2,s2,M,rfl,h2,hM,hall⟩:=ht
  unfold spec_l05DrawSpace_o9d_l1_b
  simp only
  by_cases hn:i<d.length
  ·obtain⟨z,hz⟩:=get_at hn
   have hzb:=hb z (List.mem_of_getElem? hz)
   obtain⟨a3,s3,v,e3,h3,v0,v1⟩:=pick_out c a2 s2 4 (by omega) (by omega)
   rw[if_pos (by omega),if_pos (by omega),Int.toNat_natCast,hz,obs,e3,obs]
   have ext:∀ m,(m=-1∨(z≤m∧m≤40))→∀ (j:Nat) m' z',(M++[m])[j]?=some m'→d[j]?=some z'→m'=-1∨(z'≤m'∧m'≤40):=fun m hm j m' z' h4 h5=>by
    rcases Nat.lt_trichotomy j i with hj |hj |hj
    ·rw[List.getElem?_append_left (by omega)] at h4;exact hall j m' z' h4 h5
    ·subst hj
     rw[List.getElem?_append_right (by omega),hM,Nat.sub_self] at h4
     simp at h4
     rw[hz] at h5
     cases h5;subst h4;exact hm
    ·rw[List.getElem?_eq_none (by rw[List.length_append,List.length_singleton];omega)] at h4;cases h4
   simp only
   by_cases k0:v=0
   ·rw[if_pos k0,dsD_out _ _ _ _ _ _ (by simp only;omega),obs]
    exact .inr ⟨hn,_,rfl,a3,s3,M++[-1],by simp only[w1 (show i<9223372036854775807 by omega)];push_cast;rfl,by omega,by simp[hM],ext _ (.inl rfl)⟩
   ·rw[if_neg k0]
    by_cases k1:v=1
    ·rw[if_pos k1]
     obtain⟨a4,s4,u,e4,h4,u0,u1⟩:=pick_out c a3 s3 (IntKind.i64.wrap (41-z)) (by omega) (by omega)
     rw[wrap_in (n:=41-z) (by omega) (by omega)] at u1
     rw[e4,obs]
     simp only
     rw[dsD_out _ _ _ _ _ _ (by simp only;omega),obs]
     refine .inr ⟨hn,_,rfl,a4,s4,M++[IntKind.i64.wrap (z+u)],by simp only[w1 (show i<9223372036854775807 by omega)];push_cast;rfl,by omega,by simp[hM],ext _ ?_⟩
     rw[wrap_in (by omega) (by omega)];right;omega
    ·rw[if_neg k1,dsD_out _ _ _ _ _ _ (by simp only;omega),obs]
     exact .inr ⟨hn,_,rfl,a3,s3,M++[z],by simp only[w1 (show i<9223372036854775807 by omega)];push_cast;rfl,by omega,by simp[hM],ext _ (.inr ⟨by omega,by omega⟩)⟩
  ·rw[if_neg (by omega)]
   exact .inl ⟨_,rfl,a2,s2,M,rfl,by omega,by omega,hall⟩
theorem bent_out (c:List Bt) (a s:Int) (h0:0≤a) (h1:a≤700000):∃ a' s' l,spec_l05Bent_o9d c a s=some (c,a',s',l)∧(a≤a'∧a'≤a+60)∧l.length≤6:=by
 unfold spec_l05Bent_o9d
 obtain⟨a1,s1,d,e1,l1,hd⟩:=drwDims_out c a s h0 (by omega)
 have hd3:=hd.1
 obtain⟨a2,s2,v,e2,l2,v0,v1⟩:=pick_out c a1 s1 12 (by omega) (by omega)
 rw[e1,obs]
 simp only
 rw[e2,obs]
 simp only
 by_cases k0:v=0
 ·obtain⟨a3,s3,x,e3,l3,_⟩:=among_out c a2 s2 (lit [-1,40,41,0]) (by unfold lit;simp) (by omega) (by omega)
  rw[if_pos k0,e3,obs]
  simp only[if_true]
  rw[appL_one 8 _ _ (by unfold maxRow;omega),obs]
  exact⟨a3,s3,_,rfl,by omega,by simp;omega⟩
 rw[if_neg k0]
 by_cases k1:v=1
 ·have e:appL 8 d (lit [1,1,1])=some (d++[1,1,1]):=by unfold appL lit;rw[if_pos (by unfold maxRow;simp;omega)]
  rw[if_pos k1,e,obs]
  exact⟨a2,s2,_,rfl,by omega,by simp;omega⟩
 rw[if_neg k1]
 by_cases k2:v=2
 ·obtain⟨a3,s3,u,e3,l3,_⟩:=pick_out c a2 s2 2 (by omega) (by omega)
  rw[if_pos k2]
  unfold lit
  simp only[List.length_cons,List.length_nil,Int.toNat_one,List.getElem?_cons_succ,List.getElem?_cons_zero,obs,e3]
  rw[if_pos (by omega),if_pos ⟨by omega,trivial⟩,if_pos (by omega)]
  exact⟨a3,s3,_,rfl,by omega,by simp⟩
 ·rw[if_neg k2];exact⟨a2,s2,_,rfl,by omega,by omega⟩
theorem bentS_out (c:List Bt) (a s:Int) (h0:0≤a) (h1:a≤600000):∃ a' s' x,spec_l05BentSpace_o9d c a s=some (c,a',s',x)∧(a≤a'∧a'≤a+200)∧x.1.length≤6∧x.2.length≤6:=by
 unfold spec_l05BentSpace_o9d
 obtain⟨a1,s1,x,e1,l1,hx,_⟩:=drS_out c a s h0 (by omega)
 have hx1:=hx.1.1
 have hx2:=hx.2.1
 obtain⟨a2,s2,v,e2,l2,v0,v1⟩:=pick_out c a1 s1 10 (by omega) (by omega)
 rw[e1,obs]
 simp only
 rw[e2,obs]
 simp only
 by_cases k0:v=0
 ·obtain⟨a3,s3,l,e3,l3,hl⟩:=bent_out c a2 s2 (by omega) (by omega)
  rw[if_pos k0,e3,obs]
  exact⟨a3,s3,_,rfl,by omega,hl,by simp only;omega⟩
 rw[if_neg k0]
 by_cases k1:v=1
 ·obtain⟨a3,s3,u,e3,l3,_⟩:=pick_out c a2 s2 50 (by omega) (by omega)
  rw[if_pos k1,e3,obs,appL_one 8 _ _ (by unfold maxRow;omega),obs]
  exact⟨a3,s3,_,rfl,by omega,by simp only;omega,by simp;omega⟩
 rw[if_neg k1]
 by_cases k2:v=2
 ·rw[if_pos k2]
  by_cases hl:((x.2.length:Nat):Int)>0
  ·obtain⟨a3,s3,y,e3,l3,_⟩:=among_out c a2 s2 (lit [-2,0,40,41]) (by unfold lit;simp) (by omega) (by omega)
   obtain⟨z,hz⟩:=get_at (l:=x.2) (i:=0) (by omega)
   rw[if_pos hl,e3,obs]
   simp only[if_true,Int.toNat_zero]
   rw[if_pos ⟨by omega,by omega⟩,hz,obs]
   exact⟨a3,s3,_,rfl,by omega,by simp only;omega,by simp;omega⟩
  ·rw[if_neg hl];exact⟨a2,s2,_,rfl,by omega,by omega,by omega⟩
 ·rw[if_neg k2];exact⟨a2,s2,_,rfl,by omega,by omega,by omega⟩
theorem own_out (l:List Int) (h:l.length≤1000):spec_l00Own l=some l:=by
 unfold spec_l00Own
 rw[appL_nil 8 l (by unfold maxRow;omega)];rfl
theorem drawRS_out (c:List Bt):∃ x d,spec_DrawResizeSpace c=some (x,d)∧x.1.length≤6∧x.2.length≤6∧d.length≤6:=by
 unfold spec_DrawResizeSpace spec_l00From spec_DrawResizeSpace_l1
 obtain⟨a1,s1,x,e1,l1,h1,h2⟩:=bentS_out c 0 0 (by omega) (by omega)
 simp only[obs,e1]
 rw[own_out _ (by omega),obs]
 have key:=loop_ex (f:=fun t:List Bt×Int×Int×List Int×Int=>spec_DrawResizeSpace_l1_b x t.1 t.2.1 t.2.2.1 t.2.2.2.1 t.2.2.2.2) (fun q=>∃ a' s' l,q=(c,a',s',x,l)∧(0≤a'∧a'≤2000)∧l.length=x.1.length) x.1.length
  (fun i t=>∃ a' s' l,t=(c,a',s',l,(i:Int))∧(0≤a'∧a'≤200+4*i)∧l.length=x.1.length) (fun i t hi ht=>?_) x.1.length 0 (c,a1,s1,x.1,0) (by omega) ⟨a1,s1,x.1,rfl,by omega,rfl⟩
 ·obtain⟨q,hq,a2,s2,l,rfl,l2,hl⟩:=key
  obtain⟨a3,s3,b,e3,l3⟩:=one_out c a2 s2 8 (by omega) (by omega)
  rw[hq,obs]
  simp only
  rw[e3,obs]
  cases b with
  |true =>
   obtain⟨a4,s4,m,e4,l4,hm⟩:=bent_out c a3 s3 (by omega) (by omega)
   simp only[if_true]
   rw[e4,obs]
   exact⟨_,_,rfl,h1,h2,hm⟩
  |false=>simp only[Bool.false_eq_true,if_false];exact⟨_,_,rfl,h1,h2,by omega⟩
 ·obtain⟨a2,s2,l,rfl,l2,hl⟩:=ht
  unfold spec_DrawResizeSpace_l1_b
  simp only
  by_cases hn:i<x.1.length
  ·obtain⟨a3,s3,b,e3,l3⟩:=one_out c a2 s2 2 (by omega) (by omega)
   rw[if_pos (by omega),e3,obs]
   cases b with
   |true =>
    obtain⟨a4,s4,u,e4,l4,_⟩:=pick_out c a3 s3 8 (by omega) (by omega)
    obtain⟨z,hz⟩:=get_at (l:=l) (i:=i) (by omega)
    simp only[if_true]
    rw[e4,obs,if_pos (by omega),Int.toNat_natCast,hz,obs]
    exact .inr ⟨hn,_,rfl,a4,s4,_,by rw[w1 (by omega)];push_cast;rfl,by omega,by simp[hl]⟩
   |false =>
    simp only[Bool.false_eq_true,if_false]
    exact .inr ⟨hn,_,rfl,a3,s3,l,by rw[w1 (by omega)];push_cast;rfl,by omega,hl⟩
  ·rw[if_neg (by omega)]
   exact .inl ⟨_,rfl,a2,s2,l,rfl,by omega,hl⟩
theorem spP2_out (v:DScan) (D M:List Int) (d m:Int) (h:D.length≤1048577) (h':M.length≤1048577):impl_scanner_space_od0_p2 v (D,M) d m=some (v,(D++[d],M++[m])):=by
 unfold impl_scanner_space_od0_p2
 rw[appL_one 8 _ _ (by unfold maxRow;simp only;omega),obs,appL_one 8 _ _ (by unfold maxRow;simp only;omega),obs]
theorem spP3_any (s:Str) (b:Bool) (D M:List Int) (hs:s.length≤1048576) (h:D.length≤1048577) (h':M.length≤1048577):∃ s' b' d m,impl_scanner_space_od0_p3 (s,b) (D,M)=some ((s',b'),(D++[d],M++[m]))∧s'.length≤s.length∧(b'=true∨s'.length<s.length)∧(b=true→b'=true):=by
 unfold impl_scanner_space_od0_p3
 obtain⟨s1,b1,n,e1,l1,_,w1,k1⟩:=number_out s b hs
 rw[e1,obs]
 obtain⟨s2,k,e2,l2⟩:=accept_any s1 [47,42] b1 (by omega)
 simp only
 rw[e2,obs]
 cases k with
 |true=>exact⟨s2,b1,n,-1,by rw[if_pos rfl,spP2_out _ _ _ _ _ h h'];rfl,by omega,by rcases w1 with w |w;exact .inl w;exact .inr (by omega),k1⟩
 |false =>
  obtain⟨s3,k,e3,l3⟩:=accept_any s2 [47] b1 (by omega)
  simp only[Bool.false_eq_true,if_false]
  rw[e3,obs]
  cases k with
  |true =>
   obtain⟨s4,b4,n4,e4,l4,_,w4,k4⟩:=number_out s3 b1 (by omega)
   refine⟨s4,b4,n,n4,by simp only[if_true];rw[e4,obs,spP2_out _ _ _ _ _ h h'];rfl,by omega,?_,fun hb=>k4 (k1 hb)⟩
   rcases w4 with w |w
   ·exact .inl w
   ·exact .inr (by omega)
  |false =>
   refine⟨s3,b1,n,n,by simp only[Bool.false_eq_true,if_false];rw[spP2_out _ _ _ _ _ h h'];rfl,by omega,?_,k1⟩
   rcases w1 with w |w
   ·exact .inl w
   ·exact .inr (by omega)
def Aft (t:Str):Prop:=∃ r,t=44::r∨t=41::r
theorem Aft.nc {t:Str} (h:Aft t):∀ x r,t=x::r→¬nc x:=by
 obtain⟨q,h⟩:=h
 intro x r e
 rcases h with h |h <;> (rw[h] at e;cases e;unfold TM.nc isD;decide)
theorem spP3_text (p:Int×Int) (t:Str) (b:Bool) (D M:List Int) (hp:OkP p) (ht:Aft t) (hs:(tE p++t).length≤1048576) (h:D.length≤1048577) (h':M.length≤1048577):impl_scanner_space_od0_p3 (tE p++t,b) (D,M)=some ((t,b),(D++[p.1],M++[p.2])):=by
 obtain⟨a1,a2,a3,a4⟩:=hp.b
 have h47:¬nc 47:=by unfold nc isD;decide
 unfold impl_scanner_space_od0_p3
 unfold tE at hs ⊢
 by_cases he:p.2=p.1
 ·rw[if_pos he] at hs ⊢
  rw[List.append_nil] at hs ⊢
  rw[number_itoa p.1 t b a1 (by omega) ht.nc hs,obs]
  have hl:t.length≤1048576:=by rw[List.length_append] at hs;omega
  obtain⟨r,hr⟩:=ht
  rw[accept_miss t [47,42] b hl (by rcases hr with rfl |rfl <;> (cases r <;> simp)),obs,if_neg (by simp),accept_miss t [47] b hl (by rcases hr with rfl |rfl <;> simp),obs,if_neg (by simp),spP2_out _ _ _ _ _ h h',he]
  rfl
 ·rw[if_neg he] at hs ⊢
  by_cases hm:p.2=-1
  ·rw[if_pos hm] at hs ⊢
   rw[List.append_assoc] at hs ⊢
   rw[number_itoa p.1 ([47,42]++t) b a1 (by omega) (by intro x r e;cases e;exact h47) hs,obs]
   have hl:([47,42]++t).length≤1048576:=by rw[List.length_append] at hs;omega
   rw[accept_hit [47,42] t b hl,obs,if_pos rfl,spP2_out _ _ _ _ _ h h',hm]
   rfl
  ·rw[if_neg hm] at hs ⊢
   rw[List.append_assoc,List.cons_append] at hs ⊢
   rw[number_itoa p.1 (47::(Lib.itoa p.2++t)) b a1 (by omega) (by intro x r e;cases e;exact h47) hs,obs]
   have hl:(47::(Lib.itoa p.2++t)).length≤1048576:=by rw[List.length_append] at hs;omega
   have hd:=itoa_dig (n:=p.2) (by omega)
   obtain⟨x,r,ex⟩:=List.exists_cons_of_ne_nil (itoa_ne p.2)
   have hx:x≠42:=fun hh=>by
    have:=hd x (by rw[ex];exact List.mem_cons_self)
    subst hh;exact absurd this (by unfold isD;decide)
   rw[accept_miss _ [47,42] b hl (by rw[ex];simp[hx]),obs,if_neg (by simp)]
   have hl2:(Lib.itoa p.2++t).length≤1048576:=by simp only[List.length_cons] at hl;omega
   have ha:impl_scanner_accept_o0b (47::(Lib.itoa p.2++t),b) [47]=some ((Lib.itoa p.2++t,b),true):=accept_hit [47] _ b hl
   simp only
   rw[ha,obs,if_pos rfl]
   simp only
   rw[number_itoa p.2 t b (by omega) (by omega) ht.nc hl2,obs,spP2_out _ _ _ _ _ h h']
   rfl
theorem spaceI_any (s:Str) (hs:s.length≤1048576):∃ r,impl_scanner_space_od0 (s,false)=some r:=by
 unfold impl_scanner_space_od0 impl_scanner_space_od0_l1
 obtain⟨s1,b1,e1,l1,_⟩:=expect_any s [40] false hs
 rw[e1,obs]
 have key:=loop_ex (f:=fun t:DScan×DSpc=>impl_scanner_space_od0_l1_b t.1 t.2) (fun _=>True) (s.length+1) (fun i t=>(t.1.2=true∨t.1.1.length+i≤s.length)∧t.1.1.length≤s.length∧t.2.1.length=i∧t.2.2.length=i) (fun i t hi ht=>?_) (s.length+1) 0 ((s1,b1),([],[])) (by omega) ⟨.inr (by simpa using l1),l1,rfl,rfl⟩
 ·obtain⟨r,hr,_⟩:=key
  rw[hr];exact⟨_,rfl⟩
 ·obtain⟨⟨r,b⟩,D,M⟩:=t
  obtain⟨h1,h2,h3,h4⟩:=ht
  simp only at h1 h2 h3 h4
  unfold impl_scanner_space_od0_l1_b
  cases b with
  |true=>exact .inl ⟨_,by simp;rfl,trivial⟩
  |false =>
   have h1:r.length+i≤s.length:=by rcases h1 with h |h;cases h;exact h
   simp only
   rw[if_pos (by simp)]
   obtain⟨r1,k,e2,l2⟩:=accept_any r [41] false (by omega)
   rw[e2,obs]
   cases k with
   |true=>exact .inl ⟨_,by simp;rfl,trivial⟩
   |false =>
    simp only[Bool.false_eq_true,not_false_eq_true,if_true]
    refine .inr ⟨by omega,?_⟩
    by_cases hD:((D.length:Nat):Int)>0
    ·rw[if_pos hD]
     obtain⟨r2,b2,e3,l3,_⟩:=expect_any r1 [44] false (by omega)
     rw[e3,obs]
     obtain⟨r3,b3,d,m,e4,l4,w4,_⟩:=spP3_any r2 b2 D M (by omega) (by omega) (by omega)
     rw[e4]
     refine⟨_,rfl,?_,by simp only;omega,by simp[h3],by simp[h4]⟩
     rcases w4 with w |w
     ·exact .inl w
     ·exact .inr (by simp only;omega)
    ·rw[if_neg hD]
     obtain⟨r3,b3,d,m,e4,l4,w4,_⟩:=spP3_any r1 false D M (by omega) (by omega) (by omega)
     rw[e4]
     refine⟨_,rfl,?_,by simp only;omega,by simp[h3],by simp[h4]⟩
     rcases w4 with w |w
     ·exact .inl w
     ·exact .inr (by simp only;omega)
def rst (L:List (Int×Int)) (i:Nat):Str:=(if i=0 then Lib.join (L.map tE) [44] else Lib.joinTail [44] ((L.drop i).map tE))++[41]
theorem rst_at {L:List (Int×Int)} {i:Nat} {p:Int×Int} (h:L[i]?=some p):rst L i=(if i=0 then [] else [44])++(tE p++rst L (i+1)):=by
 have hi:=(List.getElem?_eq_some_iff.1 h).1
 have hd:L.drop i=p::L.drop (i+1):=by
  rw[List.drop_eq_getElem_cons hi,(List.getElem?_eq_some_iff.1 h).2]
 unfold rst
 rw[if_neg (show ¬i+1=0 by omega)]
 by_cases h0:i=0
 ·subst h0
  rw[if_pos rfl,if_pos rfl]
  rw[List.drop_zero] at hd
  conv=>lhs;rw[hd]
  rw[List.map_cons,Lib.join_cons];simp
 ·rw[if_neg h0,if_neg h0,hd,List.map_cons];simp[Lib.joinTail]
theorem rst_aft (L:List (Int×Int)) (i:Nat):Aft (rst L (i+1)):=by
 unfold rst
 rw[if_neg (by omega)]
 cases h:L.drop (i+1) with
 |nil=>exact⟨[],.inr (by simp[Lib.joinTail])⟩
 |cons p t=>exact⟨_,.inl (by simp only[List.map_cons,Lib.joinTail,List.flatten_cons,List.cons_append,List.nil_append];rfl)⟩
theorem rst_end (L:List (Int×Int)) (i:Nat) (h:L.length≤i):rst L i=[41]:=by
 unfold rst
 by_cases h0:i=0
 ·subst h0;rw[List.eq_nil_of_length_eq_zero (show L.length=0 by omega),if_pos rfl];rfl
 ·rw[if_neg h0,List.drop_of_length_le h];rfl
theorem spaceI_text (s:DSpc) (h:VS s):impl_scanner_space_od0 (tS s,false)=some (([],false),s):=by
 obtain⟨D0,M0⟩:=s
 obtain⟨z1,z2,z3⟩:=h.zip
 have hlen:=tS_le h
 have hl2:=h.2.1
 simp only at z1 z2 z3 hlen hl2
 have hr0:tS (D0,M0)=[40]++rst (D0.zip M0) 0:=by unfold tS rst;rw[if_pos rfl];rfl
 have hrl:∀ i,i≤(D0.zip M0).length→(rst (D0.zip M0) i).length≤133:=by
  intro i
  induction i with
  |zero=>intro _;unfold rst;rw[if_pos rfl,List.length_append,List.length_singleton];omega
  |succ i ih =>
   intro hi
   obtain⟨p,hp⟩:=get_at (l:=D0.zip M0) (i:=i) (by omega)
   have:=ih (by omega)
   rw[rst_at hp,List.length_append,List.length_append] at this
   omega
 unfold impl_scanner_space_od0 impl_scanner_space_od0_l1
 rw[hr0,expect_hit [40] _ false (by have:=hrl 0 (by omega);simp only[List.length_append,List.length_cons,List.length_nil];omega),obs]
 rw[loop_some (r:=(([],false),(D0,M0))) (D0.zip M0).length (fun i t=>t=((rst (D0.zip M0) i,false),(D0.take i,M0.take i))) (fun i t hi ht=>?_) (D0.zip M0).length 0 _ (by omega) (by simp),obs]
 subst ht
 unfold impl_scanner_space_od0_l1_b
 simp only
 rw[if_pos (by simp)]
 have hrs:=hrl i hi
 by_cases hn:i<(D0.zip M0).length
 ·obtain⟨p,hp⟩:=get_at hn
  obtain⟨x1,x2⟩:=zip_get (s:=(D0,M0)) hp
  simp only at x1 x2
  have hok:=z3 p (List.mem_of_getElem? hp)
  have ea:=rst_at hp
  have hs1:D0.take (i+1)=D0.take i++[p.1]:=by rw[List.take_add_one,x1];rfl
  have hs2:M0.take (i+1)=M0.take i++[p.2]:=by rw[List.take_add_one,x2];rfl
  have hb1:(D0.take i).length≤1048577:=by rw[List.length_take];omega
  have hb2:(M0.take i).length≤1048577:=by rw[List.length_take];omega
  have hdl:(D0.take i).length=i:=by rw[List.length_take];omega
  have hp3:=spP3_text p (rst (D0.zip M0) (i+1)) false (D0.take i) (M0.take i) hok (rst_aft _ _) (by rw[ea,List.length_append] at hrs;omega) hb1 hb2
  refine .inr ⟨hn,((rst (D0.zip M0) (i+1),false),(D0.take (i+1),M0.take (i+1))),?_,rfl⟩
  have hmiss:(rst (D0.zip M0) i).take ([41]:Str).length≠[41]:=by
   rw[ea]
   by_cases h0:i=0
   ·rw[if_pos h0]
    obtain⟨x,r,ex⟩:=List.exists_cons_of_ne_nil (itoa_ne p.1)
    have:=itoa_dig (n:=p.1) (by have:=hok.b;omega) x (by rw[ex];exact List.mem_cons_self)
    have hx:x≠41:=fun hh=>by subst hh;exact absurd this (by unfold isD;decide)
    unfold tE;rw[ex];simp[hx]
   ·rw[if_neg h0];simp
  rw[accept_miss _ [41] false (by omega) hmiss,obs,if_pos (by simp),hdl]
  by_cases h0:i=0
  ·rw[if_neg (by omega)]
   rw[if_pos h0,List.nil_append] at ea
   simp only
   rw[ea,hp3,hs1,hs2];rfl
  ·rw[if_pos (by omega)]
   rw[if_neg h0] at ea
   simp only
   rw[ea,expect_hit [44] _ false (by rw[← ea];omega),obs,hp3,hs1,hs2];rfl
 ·refine .inl ?_
  rw[rst_end _ _ (by omega)]
  have:=accept_hit [41] [] false (by simp)
  rw[List.append_nil] at this
  rw[this,obs,if_neg (by simp),List.take_of_length_le (by omega),List.take_of_length_le (by omega)]
theorem readI_out (s:Str) (hs:s.length≤1048576):(∃ x,VS x∧tS x=s∧impl_ReadSpace s=some (x,true))∨((¬∃ x,VS x∧tS x=s)∧impl_ReadSpace s=some (([],[]),false)):=by
 obtain⟨⟨⟨s',b⟩,x⟩,e⟩:=spaceI_any s hs
 unfold impl_ReadSpace
 rw[e,obs]
 have back:(∃ y,VS y∧tS y=s)→b=false∧VS x∧tS x=s:=by
  rintro⟨y,hy,rfl⟩
  rw[spaceI_text y hy] at e
  cases e
  exact⟨rfl,hy,rfl⟩
 cases b with
 |true=>exact .inr ⟨fun h=>(by cases (back h).1),by simp⟩
 |false =>
  simp only[Bool.false_eq_true,if_false]
  obtain⟨c,hc,hv⟩:=iSpace_out x
  rw[hc,obs]
  cases c with
  |false=>exact .inr ⟨fun h=>(by have:=hv.2 (back h).2.1;cases this),by simp⟩
  |true =>
   have hx:=hv.1 rfl
   rw[if_neg (by simp),iText_out x hx,obs]
   by_cases ht:tS x=s
   ·exact .inl ⟨x,hx,ht,by rw[if_neg (by simpa using ht)]⟩
   ·exact .inr ⟨fun h=>ht (back h).2.2,by rw[if_pos ht]⟩
def Fit (x:DSpc) (d:List Int):Prop:=d.length=x.1.length∧∀ (i:Nat) m z,x.2[i]?=some m→d[i]?=some z→m=-1∨z≤m
theorem fit_vs {x:DSpc} {d:List Int} (hx:VS x) (hd:VD d):VS (d,x.2)↔Fit x d:=by
 constructor
 ·intro h
  exact⟨by have:=h.2.1;have:=hx.2.1;simp only at *;omega,fun i m z h1 h2=>by rcases h.2.2 i m z h1 h2 with a |a;exact .inl a;exact .inr a.1⟩
 ·intro h
  refine⟨hd,by have:=hx.2.1;have:=h.1;simp only;omega,fun i m z h1 h2=>?_⟩
  simp only at h1 h2
  rcases h.2 i m z h1 h2 with a |a
  ·exact .inl a
  ·obtain⟨y,hy⟩:=get_at (l:=x.1) (i:=i) (by have:=(List.getElem?_eq_some_iff.1 h2).1;have:=h.1;omega)
   rcases hx.2.2 i m y h1 hy with b |b
   ·exact .inl b
   ·exact .inr ⟨a,b.2⟩
open Classical in
theorem resz_out (x:DSpc) (d:List Int) (hx:VS x) (hd:d.length≤1000):impl_Space_resizable x d=some (decide (Fit x d)):=by
 unfold impl_Space_resizable impl_Space_resizable_l1
 by_cases hl:(d.length:Int)=(x.1.length:Int)
 ·rw[if_neg (not_not_intro hl),loop_all d.length (fun i=>∀ m z,x.2[i]?=some m→d[i]?=some z→m=-1∨z≤m) (fun s=>impl_Space_resizable_l1_b x d (d.length:Int) s) (.inl ()) (.inr false) (fun i hi hp=>?_) (fun i hi hp=>?_) (by simp[impl_Space_resizable_l1_b]),obs]
  ·by_cases hf:Fit x d
   ·rw[if_pos (fun i _=>hf.2 i)];exact dT hf
   ·rw[if_neg (fun h=>hf ⟨by omega,fun i m z h1 h2=>h i (List.getElem?_eq_some_iff.1 h2).1 m z h1 h2⟩)];exact dF hf
  ·obtain⟨z,hz⟩:=get_at hi
   obtain⟨m,hm⟩:=get_at (l:=x.2) (i:=i) (by have:=hx.2.1;omega)
   have:=hp m z hm hz
   unfold impl_Space_resizable_l1_b
   rw[if_pos (by omega),if_pos (by omega),Int.toNat_natCast,hz,obs,if_pos (by omega),hm,obs]
   by_cases h1:m=-1
   ·rw[if_neg (not_not_intro h1),w1 (by omega)]
   ·rw[if_pos h1,if_pos (by omega),obs,if_neg (by omega),w1 (by omega)]
  ·obtain⟨z,hz⟩:=get_at hi
   obtain⟨m,hm⟩:=get_at (l:=x.2) (i:=i) (by have:=hx.2.1;omega)
   have hn:¬(m=-1∨z≤m):=fun h=>hp fun m' z' h1 h2=>by rw[hm] at h1;rw[hz] at h2;cases h1;cases h2;exact h
   unfold impl_Space_resizable_l1_b
   rw[if_pos (by omega),if_pos (by omega),Int.toNat_natCast,hz,obs,if_pos (by omega),hm,obs,if_pos (by omega),if_pos (by omega),obs,if_pos (by omega)]
 ·rw[if_pos hl];exact dF (fun h=>hl (by have:=h.1;omega))
theorem clone_out (l:List Int) (h:l.length≤1000):slices_Clone_int64_int64_ l=some l:=by
 unfold slices_Clone_int64_int64_
 exact appL_nil 8 l (by unfold maxRow;omega)
theorem resize_out (x:DSpc) (d:List Int) (hx:x.2.length≤1000) (hd:d.length≤1000):∃ c,(∃ z,impl_ResizeSpace x d=some (z,c)∧(c=0→z=(d,x.2)∧VS x∧VS z))∧∃ z,spec_ResizeSpace x d=some (z,c):=by
 unfold impl_ResizeSpace spec_ResizeSpace
 obtain⟨b1,e1,v1⟩:=iSpace_out x
 obtain⟨b2,e2,v2⟩:=sSpace_out x
 have hb:b2=b1:=by
  cases b1 <;> cases b2 <;> simp at v1 v2 ⊢
  ·exact v1 v2
  ·exact v2 v1
 subst hb
 rw[e1,e2,obs,obs]
 cases b2 with
 |false=>exact⟨1,⟨_,by rw[if_pos (by simp)],fun h=>by cases h⟩,_,by rw[if_pos (by simp)]⟩
 |true =>
  have hV:=v1.1 rfl
  rw[if_neg (by simp),if_neg (by simp)]
  obtain⟨b3,e3,v3⟩:=iDims_out d
  obtain⟨b4,e4,v4⟩:=sDims_out d
  have hb:b4=b3:=by
   cases b3 <;> cases b4 <;> simp at v3 v4 ⊢
   ·exact v3 v4
   ·exact v4 v3
  subst hb
  rw[e3,e4,obs,obs]
  cases b4 with
  |false=>exact⟨1,⟨_,by rw[if_pos (by simp)],fun h=>by cases h⟩,_,by rw[if_pos (by simp)]⟩
  |true =>
   have hD:=v3.1 rfl
   classical
   rw[if_neg (by simp),if_neg (by simp),resz_out x d hV hd,obs,own_out d hd,obs,own_out x.2 hx,obs]
   obtain⟨b5,e5,v5⟩:=sSpace_out (d,x.2)
   rw[e5,obs]
   by_cases hf:Fit x d
   ·have hvs:=(fit_vs hV hD).2 hf
    rw[v5.2 hvs,decide_eq_true hf,if_neg (by simp),if_neg (by simp),clone_out d hd,obs,clone_out x.2 hx,obs]
    exact⟨0,⟨_,rfl,fun _=>⟨rfl,hV,hvs⟩⟩,_,rfl⟩
   ·have hb5:b5=false:=by
     cases b5 with
     |true=>exact absurd ((fit_vs hV hD).1 (v5.1 rfl)) hf
     |false=>rfl
    rw[hb5,decide_eq_false hf,if_pos (by simp),if_pos (by simp)]
    exact⟨2,⟨_,rfl,fun h=>by cases h⟩,_,rfl⟩
theorem d8_same (l:List Int) (h:l.length≤1048576):laws_d8Same l l=some true:=by
 unfold laws_d8Same laws_d8Same_l1
 rw[if_neg (by simp),loop_eq l l rfl (fun s=>laws_d8Same_l1_b l l s) (.inl ()) (.inr false) (fun i x hi hx hx2=>by
  have hx':=(List.getElem?_eq_some_iff.1 hx).2
  simp[laws_d8Same_l1_b,hi,hx',w1 (show i<9223372036854775807 by omega)]) (fun i x y hi hx hy hxy=>by
  rw[hx] at hy;cases hy;exact absurd rfl hxy) (by simp[laws_d8Same_l1_b])]
 simp
theorem drawDS_out (c:List Bt):∃ t,spec_DrawDecodeSpace c=some t∧t.length≤1048576:=by
 unfold spec_DrawDecodeSpace spec_l00From
 obtain⟨a1,s1,x,e1,l1,hx,_⟩:=drS_out c 0 0 (by omega) (by omega)
 have he:=eS_len hx
 have hpos:1≤(eS x).length:=by unfold eS;simp
 simp only[obs,e1,encSp_out x hx]
 unfold bytL
 rw[if_pos (by unfold maxRow;omega),obs]
 obtain⟨a2,s2,v,e2,l2,v0,v1⟩:=pick_out c a1 s1 6 (by omega) (by omega)
 rw[e2,obs]
 simp only[List.length_map]
 by_cases k0:v=0
 ·rw[if_pos k0]
  obtain⟨a3,s3,k,e3,l3,u0,u1⟩:=pick_out c a2 s2 ((eS x).length:Int) (by omega) (by omega)
  obtain⟨a4,s4,w,e4,l4,_⟩:=pick_out c a3 s3 256 (by omega) (by omega)
  obtain⟨y,hy⟩:=get_at (l:=(eS x).map Bt.mk) (i:=k.toNat) (by rw[List.length_map];omega)
  rw[e3,obs]
  simp only
  rw[e4,obs,if_pos (by omega),hy,obs]
  exact⟨_,rfl,by simp;omega⟩
 rw[if_neg k0]
 by_cases k1:v=1
 ·rw[if_pos k1]
  obtain⟨a4,s4,w,e4,l4,_⟩:=pick_out c a2 s2 50 (by omega) (by omega)
  rw[e4,obs,appL_one 1 _ _ (by rw[List.length_map];unfold maxRow;omega),obs]
  exact⟨_,rfl,by simp;omega⟩
 rw[if_neg k1]
 by_cases k2:v=2
 ·rw[if_pos k2]
  obtain⟨a3,s3,k,e3,l3,u0,u1⟩:=pick_out c a2 s2 ((eS x).length:Int) (by omega) (by omega)
  rw[e3,obs]
  simp only
  rw[show k=((k.toNat:Nat):Int) by omega,subL_to _ _ (by rw[List.length_map];omega),obs]
  exact⟨_,rfl,by simp;omega⟩
 ·rw[if_neg k2];exact⟨_,rfl,by simp;omega⟩
theorem drawRdS_out (c:List Bt):∃ t,spec_DrawReadSpace c=some t∧t.length≤1048576:=by
 unfold spec_DrawReadSpace spec_l00From
 obtain⟨a1,s1,x,e1,l1,hx,_⟩:=drS_out c 0 0 (by omega) (by omega)
 have hp:spec_SpaceText x=some (tS x):=by
  rcases sText_out x with ⟨_,e⟩ |⟨hn,_⟩
  ·exact e
  ·exact absurd hx hn
 have ht:(tS x).length≤134:=by
  have:=tS_le hx
  unfold tS;simp only[List.length_append,List.length_cons,List.length_nil];omega
 obtain⟨a4,s4,v,e4,h4,v0,v1⟩:=pick_out c a1 s1 6 (by omega) (by omega)
 simp only[obs,e1,hp,e4]
 by_cases hv0:v=0
 ·rw[if_pos hv0]
  obtain⟨a5,s5,u,e5,h5,u0,u1⟩:=pick_out c a4 s4 ((tS x).length:Int) (by omega) (by omega)
  obtain⟨p,q,ep,eq,hp,hq⟩:=subL_split (tS x) u u0 (by omega)
  obtain⟨a6,s6,w,e6,h6,hw⟩:=textS_out c a5 s5 (lit [[48],[47],[42],[44],[40],[41],[32],[52]]) (by unfold lit;simp) (by omega) (by omega)
  have hwl:w.length≤2:=by
   unfold lit at hw
   simp only[List.mem_cons,List.not_mem_nil,or_false] at hw
   rcases hw with rfl |rfl |rfl |rfl |rfl |rfl |rfl |rfl <;> simp
  simp only[e5,obs,ep,eq,and_self,if_true,e6]
  rw[if_pos (by omega),if_pos (by rw[List.length_append];omega)]
  exact⟨_,rfl,by simp only[List.length_append];omega⟩
 ·rw[if_neg hv0]
  by_cases hv1:v=1
  ·rw[if_pos hv1]
   obtain⟨a6,s6,w,e6,h6,hw⟩:=textS_out c a4 s4 (lit [[],[40],[40,41],[40,52,47,52,41],[40,48,52,41],[40,53,47,52,41],[40,52,49,41],[40,49,44,49,44,49,44,49,41],[40,51,47,42],[40,45,49,41],[40,44,41],[91,52,93]]) (by unfold lit;simp) (by omega) (by omega)
   have hwl:w.length≤100:=by
    unfold lit at hw
    simp only[List.mem_cons,List.not_mem_nil,or_false] at hw
    rcases hw with rfl |rfl |rfl |rfl |rfl |rfl |rfl |rfl |rfl |rfl |rfl |rfl <;> simp
   simp only[e6,obs,if_true]
   exact⟨_,rfl,by omega⟩
  ·rw[if_neg hv1];exact⟨_,rfl,by omega⟩
theorem vsS_out (x:DSpc) (h:VS x):spec_ValidSpace x=some true:=by
 unfold spec_ValidSpace
 obtain⟨b,e,v⟩:=sSpace_out x
 rw[e,obs,v.2 h]
theorem FnSpacesRead_true (c m:List Bt) (h:Gd.ok c) (h':Gd.ok m):laws_FnSpacesRead c m=some true:=by
 unfold laws_FnSpacesRead
 by_cases h1:(c.length:Int)>1048576
 ·rw[if_pos h1]
 rw[if_neg h1]
 by_cases h2:(m.length:Int)>1048576
 ·rw[if_pos h2]
 rw[if_neg h2]
 have p2:laws_FnSpacesRead_p2 m=some true:=by
  unfold laws_FnSpacesRead_p2
  obtain⟨x,d,e,l1,l2,l3⟩:=drawRS_out m
  obtain⟨k,⟨z,e1,hz⟩,z',e2⟩:=resize_out x d (by omega) (by omega)
  rw[e,obs]
  simp only
  rw[e1,obs]
  simp only
  by_cases hk:k=0
  ·obtain⟨rfl,hv,hvz⟩:=hz hk
   rw[if_neg (not_not_intro hk),vsS_out _ hvz,obs,if_pos rfl,d8_same d (by omega),obs,if_pos rfl,d8_same x.2 (by omega),obs]
  ·rw[if_pos hk,e2,obs];simp
 have p1:laws_FnSpacesRead_p1 c m=some true:=by
  unfold laws_FnSpacesRead_p1
  obtain⟨t,e,ht⟩:=drawRdS_out c
  rw[e,obs]
  rcases readI_out t ht with ⟨x,hx,hxt,e1⟩ |⟨_,e1⟩
  ·rw[e1,obs]
   simp only[if_true]
   have et:impl_SpaceText x=some (tS x):=by
    unfold impl_SpaceText
    obtain⟨b,e,v⟩:=iSpace_out x
    rw[e,obs,v.2 hx,if_neg (not_not_intro rfl),iText_out x hx,obs]
   rw[et,obs,if_neg (not_not_intro hxt),vsS_out x hx,obs,if_neg (by simp),p2,obs]
  ·rw[e1,obs]
   simp only[Bool.false_eq_true,if_false]
   rw[p2,obs]
 obtain⟨t,e,ht⟩:=drawDS_out c
 obtain⟨x,b,e1,hx⟩:=decSI_any t ht
 rw[e,obs,e1,obs]
 cases b with
 |true =>
  obtain⟨hv,hE⟩:=hx rfl
  simp only[if_true]
  rw[encI_out x hv,obs,if_neg (not_not_intro hE),vsS_out x hv,obs,if_neg (by simp),p1,obs]
 |false =>
  simp only[Bool.false_eq_true,if_false]
  rw[p1,obs]
end Go.Proofs.TM
