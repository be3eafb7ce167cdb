import Derived.Test.YtlajjnljeebkkaaGreatDoorLFA
import Derived.Test.YtlajjnljeebkkaaGreatDoorLFB
namespace Go.Proofs.TM
open Go Go.Proofs
set_option maxHeartbeats 1000000
theorem and255u (x:Int):0≤bitV .and .u64 x 255∧bitV .and .u64 x 255≤255:=by
 have h:((BitVec.ofInt 64 x) &&& (BitVec.ofInt 64 255)).toNat≤255:=by
  rw[BitVec.toNat_and];exact Nat.le_trans Nat.and_le_right (by decide)
 have e:bitV .and .u64 x 255=IntKind.u64.wrap (((BitVec.ofInt 64 x) &&& (BitVec.ofInt 64 255)).toNat:Int):=rfl
 rw[e]
 generalize ((BitVec.ofInt 64 x) &&& (BitVec.ofInt 64 255)).toNat=m at h
 rw[IntKind.wrap_u64];omega
theorem next_out (c:List Bt) (a s:Int) (h0:0≤a) (h1:a≤1000000):∃ s' v,spec_l00Src_next_o9d c a s=some (c,a+1,s',v)∧0≤v∧v≤255:=by
 have hp:∀ b:Int,0≤b→b≤255→∃ s' v,spec_l00Src_next_o9d_p1 c a s b=some (c,a+1,s',v)∧0≤v∧v≤255:=fun b hb hb'=>by
  unfold spec_l00Src_next_o9d_p1
  rw[wrap_in (n:=a+1) (by omega) (by omega)]
  split
  ·exact⟨_,_,rfl,hb,hb'⟩
  ·have:=and255u (shrV .u64 (IntKind.u64.wrap (IntKind.u64.wrap (IntKind.u64.wrap (s*6364136223846793005)+IntKind.u64.wrap b)+1442695040888963407)) 40)
   exact⟨_,_,rfl,by rw[wrap_in (by omega) (by omega)];exact this.1,by rw[wrap_in (by omega) (by omega)];exact this.2⟩
 unfold spec_l00Src_next_o9d
 by_cases h:a<(c.length:Int)
 ·rw[if_pos h,if_pos h0]
  obtain⟨x,hx⟩:=get_at (l:=c) (i:=a.toNat) (by omega)
  have hb:(x.v.toNat:Int)≤255:=by have:=x.v.toNat_lt;omega
  rw[hx,obs,wrap_in (n:=(x.v.toNat:Int)) (by omega) (by omega)]
  obtain⟨s',v,e,h2⟩:=hp x.v.toNat (by omega) hb
  exact⟨s',v,by rw[e];rfl,h2⟩
 ·rw[if_neg h]
  obtain⟨s',v,e,h2⟩:=hp 0 (by omega) (by omega)
  exact⟨s',v,by rw[e];rfl,h2⟩
theorem pick_out (c:List Bt) (a s n:Int) (h0:0≤a) (h1:a≤999999):∃ a' s' v,spec_l00Src_pick_o30 c a s n=some (c,a',s',v)∧(a≤a'∧a'≤a+2)∧0≤v∧(v<n∨v=0):=by
 unfold spec_l00Src_pick_o30
 by_cases hn:n≤1
 ·rw[if_pos hn];exact⟨a,s,0,rfl,by omega,by omega,.inr rfl⟩
 rw[if_neg hn]
 obtain⟨s1,v1,e1,l1,u1⟩:=next_out c a s h0 (by omega)
 rw[e1,obs]
 have hz:¬n=0:=by omega
 have tm:∀ v:Int,0≤v→0≤Int.tmod v n∧Int.tmod v n<n:=fun v hv=>by
  rw[Int.tmod_eq_emod_of_nonneg hv]
  exact⟨Int.emod_nonneg _ (by omega),Int.emod_lt_of_pos _ (by omega)⟩
 by_cases h2:n>200
 ·rw[if_pos h2]
  obtain⟨s2,v2,e2,l2,u2⟩:=next_out c (a+1) s1 (by omega) (by omega)
  simp only
  rw[e2,obs,if_neg hz]
  have e3:IntKind.i64.wrap (v1*256)=v1*256:=wrap_in (by omega) (by omega)
  have e4:IntKind.i64.wrap (v1*256+v2)=v1*256+v2:=wrap_in (by omega) (by omega)
  have:=tm (v1*256+v2) (by omega)
  refine⟨a+1+1,s2,_,rfl,by omega,?_,?_⟩
  ·simp only[e3,e4];exact this.1
  ·simp only[e3,e4];exact .inl this.2
 ·rw[if_neg h2,if_neg hz]
  have:=tm v1 l1
  exact⟨a+1,s1,_,rfl,by omega,this.1,.inl this.2⟩
theorem one_out (c:List Bt) (a s n:Int) (h0:0≤a) (h1:a≤999999):∃ a' s' b,spec_l00Src_one_o30 c a s n=some (c,a',s',b)∧(a≤a'∧a'≤a+2):=by
 obtain⟨a',s',v,e,h2,_⟩:=pick_out c a s n h0 h1
 exact⟨a',s',_,by unfold spec_l00Src_one_o30;rw[e];rfl,h2⟩
theorem among_out (c:List Bt) (a s:Int) (l:List Int) (hl:0<l.length) (h0:0≤a) (h1:a≤999999):∃ a' s' x,spec_l00Src_among_o72 c a s l=some (c,a',s',l,x)∧(a≤a'∧a'≤a+2)∧x∈l:=by
 obtain⟨a',s',v,e,h2,h3,h4⟩:=pick_out c a s l.length h0 h1
 obtain⟨x,hx⟩:=get_at (l:=l) (i:=v.toNat) (by omega)
 refine⟨a',s',x,?_,h2,List.mem_of_getElem? hx⟩
 unfold spec_l00Src_among_o72
 rw[e,obs]
 simp only
 rw[if_pos (by omega),hx];rfl
def DD (l:List Int):Prop:=l.length≤3∧((∀ x∈l,0≤x∧x≤8)∨(l.length=1∧∀ x∈l,0≤x∧x≤40))
theorem DD.prod {l:List Int} (h:DD l):0≤prodW l∧prodW l≤512:=by
 obtain⟨h1,h2⟩:=h
 have wr:∀ z:Int,0≤z→z≤512→IntKind.i64.wrap z=z:=fun z a b=>wrap_in (by omega) (by omega)
 match l,h1 with
 |[],_=>exact⟨by decide,by decide⟩
 |[a],_ =>
  have:0≤a∧a≤40:=by rcases h2 with h |h;have:=h a (by simp);omega;exact h.2 a (by simp)
  have e:prodW [a]=IntKind.i64.wrap (1*a):=rfl
  rw[e,Int.one_mul,wr a (by omega) (by omega)];omega
 |[a,b],_ =>
  rcases h2 with h |h
  ·have ha:=h a (by simp)
   have hb:=h b (by simp)
   have e:prodW [a,b]=IntKind.i64.wrap (IntKind.i64.wrap (1*a)*b):=rfl
   have hab:0≤a*b∧a*b≤64:=⟨Int.mul_nonneg ha.1 hb.1,by have:=Int.mul_le_mul ha.2 hb.2 hb.1 (by omega:(0:Int)≤8);omega⟩
   rw[e,Int.one_mul,wr a (by omega) (by omega),wr _ (by omega) (by omega)];omega
  ·have:=h.1;simp at this
 |[a,b,c],_ =>
  rcases h2 with h |h
  ·have ha:=h a (by simp)
   have hb:=h b (by simp)
   have hc:=h c (by simp)
   have e:prodW [a,b,c]=IntKind.i64.wrap (IntKind.i64.wrap (IntKind.i64.wrap (1*a)*b)*c):=rfl
   have hab:0≤a*b∧a*b≤64:=⟨Int.mul_nonneg ha.1 hb.1,by have:=Int.mul_le_mul ha.2 hb.2 hb.1 (by omega:(0:Int)≤8);omega⟩
   have habc:0≤a*b*c∧a*b*c≤512:=⟨Int.mul_nonneg hab.1 hc.1,by have:=Int.mul_le_mul hab.2 hc.2 hc.1 (by omega:(0:Int)≤64);omega⟩
   rw[e,Int.one_mul,wr a (by omega) (by omega),wr (a*b) (by omega) (by omega),wr (a*b*c) (by omega) (by omega)];omega
  ·have:=h.1;simp at this
theorem DD.vd {l:List Int} (h:DD l):VD l :=
 ⟨h.1,fun x hx=>by rcases h.2 with g |g;have:=g x hx;omega;exact g.2 x hx,by have:=h.prod;omega⟩
theorem drwP2_out (c:List Bt) (a s k:Int) (l:List Int) (x:Int) (h:l.length≤1000):spec_l05Draw_o30_p2 c a s k l x=some (c,a,s,k,l++[x]):=by
 unfold spec_l05Draw_o30_p2
 rw[appL_one 8 _ _ (by unfold maxRow;omega),obs]
theorem drw_out (c:List Bt) (a s r:Int) (h0:0≤a) (h1:a≤900000) (hr:0≤r) (hr3:r≤3):∃ a' s' l,spec_l05Draw_o30 c a s r=some (c,a',s',l)∧(a≤a'∧a'≤a+30)∧DD l:=by
 unfold spec_l05Draw_o30 spec_l05Draw_o30_l1
 have key:=loop_ex (f:=fun t:List Bt×Int×Int×Int×List Int=>spec_l05Draw_o30_l1_b t.1 t.2.1 t.2.2.1 t.2.2.2.1 t.2.2.2.2) (fun q=>∃ a' s' l,q=(c,a',s',l)∧(a≤a'∧a'≤a+18)∧l.length≤3∧∀ x∈l,0≤x∧x≤8) r.toNat
  (fun i t=>∃ a' s' l,t=(c,a',s',r-i,l)∧(a≤a'∧a'≤a+6*i)∧l.length=i∧∀ x∈l,0≤x∧x≤8) (fun i t hi ht=>?_) r.toNat 0 (c,a,s,r,[]) (by omega) ⟨a,s,[],by simp,by omega,rfl,by simp⟩
 ·obtain⟨q,hq,a1,s1,l,rfl,ha1,hl,hx⟩:=key
  rw[hq,obs]
  simp only
  by_cases h1l:((l.length:Nat):Int)=1
  ·rw[if_pos h1l]
   obtain⟨a2,s2,b,e2,ha2⟩:=one_out c a1 s1 6 (by omega) (by omega)
   rw[e2,obs]
   cases b with
   |true =>
    simp only[if_true]
    obtain⟨a3,s3,x,e3,ha3,hx3⟩:=among_out c a2 s2 (lit [40,39,17]) (by unfold lit;simp) (by omega) (by omega)
    rw[e3,obs]
    simp only[if_true]
    obtain⟨y,rfl⟩:∃ y,l=[y]:=by
     match l,h1l with
     |[y],_=>exact⟨y,rfl⟩
     |_::_::_,h=>simp only[List.length_cons] at h;omega
    simp only[List.length_singleton,Int.toNat_zero,List.getElem?_cons_zero,obs]
    refine⟨a3,s3,[x],by simp,by omega,by simp,.inr ⟨rfl,fun z hz=>?_⟩⟩
    rw[List.mem_singleton] at hz
    subst hz
    unfold lit at hx3
    simp only[List.mem_cons,List.not_mem_nil,or_false] at hx3
    omega
   |false =>
    simp only[Bool.false_eq_true,if_false]
    exact⟨a2,s2,l,rfl,by omega,hl,.inl hx⟩
  ·rw[if_neg h1l];exact⟨a1,s1,l,rfl,by omega,hl,.inl hx⟩
 ·obtain⟨a1,s1,l,rfl,ha1,hl,hx⟩:=ht
  unfold spec_l05Draw_o30_l1_b
  simp only
  by_cases hn:i<r.toNat
  ·rw[if_pos (by omega)]
   obtain⟨a2,s2,v,e2,ha2,v0,v1⟩:=pick_out c a1 s1 6 (by omega) (by omega)
   rw[e2,obs]
   simp only
   obtain⟨a3,s3,b,e3,ha3⟩:=one_out c a2 s2 8 (by omega) (by omega)
   rw[e3,obs]
   cases b with
   |true =>
    simp only[if_true]
    obtain⟨a4,s4,u,e4,ha4,u0,u1⟩:=pick_out c a3 s3 9 (by omega) (by omega)
    rw[e4,obs]
    simp only
    rw[drwP2_out _ _ _ _ _ _ (by omega),obs]
    refine .inr ⟨hn,_,rfl,a4,s4,l++[u],?_,by omega,by simp[hl],fun x hm=>?_⟩
    ·simp only;rw[wrap_in (by omega) (by omega)];simp only[Prod.mk.injEq,true_and,and_true];omega
    ·rcases List.mem_append.1 hm with hm |hm
     ·exact hx x hm
     ·rw[List.mem_singleton] at hm;subst hm;omega
   |false =>
    simp only[Bool.false_eq_true,if_false]
    rw[drwP2_out _ _ _ _ _ _ (by omega),obs]
    refine .inr ⟨hn,_,rfl,a3,s3,l++[IntKind.i64.wrap (1+v)],?_,by omega,by simp[hl],fun x hm=>?_⟩
    ·simp only;rw[wrap_in (n:=r-i-1) (by omega) (by omega)];simp only[Prod.mk.injEq,true_and,and_true];omega
    ·rcases List.mem_append.1 hm with hm |hm
     ·exact hx x hm
     ·rw[List.mem_singleton,wrap_in (by omega) (by omega)] at hm;subst hm;omega
  ·rw[if_neg (by omega)]
   exact .inl ⟨_,rfl,a1,s1,l,rfl,by omega,by omega,hx⟩
theorem drwDims_out (c:List Bt) (a s:Int) (h0:0≤a) (h1:a≤800000):∃ a' s' l,spec_l05DrawDims_o9d c a s=some (c,a',s',l)∧(a≤a'∧a'≤a+40)∧DD l:=by
 unfold spec_l05DrawDims_o9d
 obtain⟨a1,s1,x,e1,ha1,hx⟩:=among_out c a s (lit [1,1,2,2,2,3,3,0]) (by unfold lit;simp) h0 (by omega)
 rw[e1,obs]
 simp only[if_true]
 unfold lit at hx
 simp only[List.mem_cons,List.not_mem_nil,or_false] at hx
 obtain⟨a2,s2,l,e2,ha2,hl⟩:=drw_out c a1 s1 x (by omega) (by omega) (by omega) (by omega)
 rw[e2,obs]
 exact⟨a2,s2,l,rfl,by omega,hl⟩
def mB (m:Int):Int:=if m=-1 then 255 else m
def eE (p:Int×Int):Str:=leB p.1 1++leB (mB p.2) 1
def eS (s:DSpc):Str:=leB s.1.length 1++((s.1.zip s.2).map eE).flatten
theorem eEs_len (l:List (Int×Int)):((l.map eE).flatten).length=2*l.length:=by
 induction l with
 |nil=>rfl
 |cons f l ih=>rw[List.map_cons,List.flatten_cons,List.length_append,ih,List.length_cons];simp[eE];omega
theorem eS_len {s:DSpc} (h:VS s):(eS s).length≤7:=by
 obtain⟨z1,z2,_⟩:=h.zip
 unfold eS;rw[List.length_append,eEs_len,leB_length];omega
theorem zipT {s:DSpc} {i:Nat} {p:Int×Int} (h:(s.1.zip s.2)[i]?=some p):((s.1.zip s.2).take (i+1)).map eE=((s.1.zip s.2).take i).map eE++[eE p]:=by
 rw[List.take_add_one,h];simp
theorem encI_out (s:DSpc) (h:VS s):impl_EncodeSpace s=some (eS s):=by
 obtain⟨z1,z2,z3⟩:=h.zip
 unfold impl_EncodeSpace impl_Space_encode impl_Space_encode_l1
 obtain⟨b,hb,hv⟩:=iSpace_out s
 rw[hb,obs,hv.2 h,if_neg (not_not_intro rfl),put1,obs,loop_some (r:=eS s) s.1.length (fun i t=>t=(leB s.1.length 1++(((s.1.zip s.2).take i).map eE).flatten,(i:Int))) (fun i t hi ht=>?_) s.1.length 0 (leB s.1.length 1,0) (by omega) (by simp),obs,obs]
 subst ht
 unfold impl_Space_encode_l1_b
 simp only
 by_cases hn:i<s.1.length
 ·obtain⟨p,hp⟩:=get_at (show i<(s.1.zip s.2).length by omega)
  obtain⟨x1,x2⟩:=zip_get hp
  have hl:=eEs_len ((s.1.zip s.2).take i)
  rw[List.length_take] at hl
  rw[if_pos (by omega),if_pos (by omega),Int.toNat_natCast,x1,obs,put1,obs,if_pos (by simp only[List.length_append,leB_length,hl];omega),if_pos (by omega),x2,obs]
  have e:∀ m,mB p.2=m→leB s.1.length 1++(((s.1.zip s.2).take i).map eE).flatten++leB p.1 1++leB m 1=leB s.1.length 1++(((s.1.zip s.2).take (i+1)).map eE).flatten:=fun m hm=>by
   rw[zipT hp,List.flatten_append,List.flatten_cons,List.flatten_nil,List.append_nil]
   unfold eE;rw[hm];simp only[List.append_assoc]
  by_cases hm:p.2=-1
  ·rw[if_pos hm,put1,obs,if_pos (by simp only[List.length_append,leB_length,hl];omega),w1 (by omega),e 255 (by unfold mB;rw[if_pos hm])]
   exact .inr ⟨hn,_,rfl,by push_cast;rfl⟩
  ·rw[if_neg hm,if_pos (by omega),obs,put1,obs,if_pos (by simp only[List.length_append,leB_length,hl];omega),w1 (by omega),e p.2 (by unfold mB;rw[if_neg hm])]
   exact .inr ⟨hn,_,rfl,by push_cast;rfl⟩
 ·have:i=s.1.length:=by omega
  subst this
  rw[if_neg (by omega),← z1,List.take_length,z1];exact .inl rfl
theorem mB_in {p:Int×Int} (h:OkP p):0≤mB p.2∧mB p.2≤255:=by
 have:=h.b
 unfold mB
 split <;> omega
theorem dsP2_out (v:RdD) (D M:List Int) (k m:Int) (h:M.length≤1000):impl_decoder_space_od0_p2 v (D,M) k m=some (v,(D,M++[m]),k):=by
 unfold impl_decoder_space_od0_p2
 rw[appL_one 8 _ _ (by unfold maxRow;simp only;omega),obs]
theorem decSI_text (s:DSpc) (h:VS s):impl_DecodeSpace (eS s)=some (s,true):=by
 obtain⟨z1,z2,z3⟩:=h.zip
 have hs:=eS_len h
 have hz:(s.1.zip s.2).map (·.1)=s.1∧(s.1.zip s.2).map (·.2)=s.2:=⟨List.map_fst_zip (by have:=h.2.1;omega),List.map_snd_zip (by have:=h.2.1;omega)⟩
 have key:impl_decoder_space_od0 (eS s,false)=some (([],false),s):=by
  unfold impl_decoder_space_od0 impl_decoder_space_od0_l1
  rw[iByte_out (eS s,false) (by simp only;omega),obs]
  have e0:rdN (eS s,false) 1=((((s.1.zip s.2).map eE).flatten,false),(s.1.length:Int)):=rdN_one s.1.length (by omega) (by omega) _ _
  rw[e0]
  simp only
  rw[loop_some (r:=(([],false),s)) (s.1.zip s.2).length (fun i t=>t=(((((s.1.zip s.2).drop i).map eE).flatten,false),(((s.1.zip s.2).take i).map (·.1),((s.1.zip s.2).take i).map (·.2)),(s.1.length:Int)-i)) (fun i t hi ht=>?_) (s.1.zip s.2).length 0 ((((s.1.zip s.2).map eE).flatten,false),([],[]),(s.1.length:Int)) (by omega) (by simp),obs]
  subst ht
  unfold impl_decoder_space_od0_l1_b
  simp only
  by_cases hn:i<(s.1.zip s.2).length
  ·obtain⟨p,hp⟩:=get_at hn
   have hok:=z3 p (List.mem_of_getElem? hp)
   have hb:=hok.b
   have hmb:=mB_in hok
   have hd:(s.1.zip s.2).drop i=p::(s.1.zip s.2).drop (i+1):=by
    rw[List.drop_eq_getElem_cons hn,(List.getElem?_eq_some_iff.1 hp).2]
   have hdl:=eEs_len ((s.1.zip s.2).drop (i+1))
   rw[List.length_drop] at hdl
   rw[hd,List.map_cons,List.flatten_cons,show eE p++(((s.1.zip s.2).drop (i+1)).map eE).flatten=leB p.1 1++(leB (mB p.2) 1++(((s.1.zip s.2).drop (i+1)).map eE).flatten) by unfold eE;simp only[List.append_assoc]]
   generalize hR:(((s.1.zip s.2).drop (i+1)).map eE).flatten=R at hdl ⊢
   have hB:∀ (n:Int) (t:Str),0≤n→n≤255→(leB n 1++t).length≤1048576→impl_decoder_byte_od0 (leB n 1++t,false)=some ((t,false),n):=fun n t a b c=>by rw[iByte_out _ c,rdN_one n a b]
   have hlen:∀ l:List (Int×Int),(l.take i).length≤1000∨l.length>1000:=fun l=>by rw[List.length_take];omega
   have hl1:(((s.1.zip s.2).take i).map (·.1)).length≤1000:=by rw[List.length_map,List.length_take];omega
   have hl2:(((s.1.zip s.2).take i).map (·.2)).length≤1000:=by rw[List.length_map,List.length_take];omega
   rw[if_pos (by omega),if_pos (by simp),hB p.1 _ (by omega) (by omega) (by simp only[List.length_append,leB_length];omega),obs,appL_one 8 _ _ (by unfold maxRow;omega),obs]
   simp only
   rw[hB (mB p.2) _ hmb.1 hmb.2 (by simp only[List.length_append,leB_length];omega),obs]
   simp only
   have e1:((s.1.zip s.2).take (i+1)).map (·.1)=((s.1.zip s.2).take i).map (·.1)++[p.1]:=by rw[List.take_add_one,hp];simp
   have e2:((s.1.zip s.2).take (i+1)).map (·.2)=((s.1.zip s.2).take i).map (·.2)++[p.2]:=by rw[List.take_add_one,hp];simp
   by_cases hm:mB p.2=255
   ·have hp2:p.2=-1:=by unfold mB at hm;split at hm;assumption;omega
    rw[if_pos hm,dsP2_out _ _ _ _ _ hl2,obs]
    refine .inr ⟨hn,_,rfl,?_⟩
    simp only
    rw[wrap_in (by omega) (by omega),e1,e2,hp2]
    simp only[Prod.mk.injEq,true_and]
    push_cast;omega
   ·have hp2:mB p.2=p.2:=by unfold mB at hm ⊢;split at hm;exact absurd rfl hm;rename_i h;rw[if_neg h]
    rw[if_neg hm,dsP2_out _ _ _ _ _ hl2,obs]
    refine .inr ⟨hn,_,rfl,?_⟩
    simp only
    rw[wrap_in (by omega) (by omega),e1,e2,hp2]
    simp only[Prod.mk.injEq,true_and]
    push_cast;omega
  ·have:i=(s.1.zip s.2).length:=by omega
   subst this
   refine .inl ?_
   rw[if_neg (by omega),List.take_length,List.drop_length,hz.1,hz.2];rfl
 unfold impl_DecodeSpace
 obtain⟨b,hb,hv⟩:=iSpace_out s
 rw[key,obs]
 simp only
 rw[if_neg (by simp),if_neg (by simp),hb,obs,hv.2 h,if_neg (by simp)]
theorem dsD_out (c:List Bt) (a s k m:Int) (x:DSpc) (h:x.2.length≤1000):spec_l05DrawSpace_o9d_p2 c a s x k m=some (c,a,s,(x.1,x.2++[m]),k):=by
 unfold spec_l05DrawSpace_o9d_p2
 rw[appL_one 8 _ _ (by unfold maxRow;omega),obs]
theorem drS_out (c:List Bt) (a s:Int) (h0:0≤a) (h1:a≤700000):∃ a' s' x,spec_l05DrawSpace_o9d c a s=some (c,a',s',x)∧(a≤a'∧a'≤a+60)∧VS x∧DD x.1:=by
 unfold spec_l05DrawSpace_o9d spec_l05DrawSpace_o9d_l1
 obtain⟨a1,s1,d,e1,l1,hd⟩:=drwDims_out c a s h0 (by omega)
 have hd3:=hd.1
 have hb:∀ x∈d,0≤x∧x≤40:=hd.vd.2.1
 rw[e1,obs]
 simp only
 have key:=loop_ex (f:=fun t:List Bt×Int×Int×DSpc×Int=>spec_l05DrawSpace_o9d_l1_b t.1 t.2.1 t.2.2.1 t.2.2.2.1 t.2.2.2.2) (fun q=>∃ a' s' M,q=(c,a',s',(d,M))∧(a≤a'∧a'≤a+60)∧M.length=d.length∧∀ (j:Nat) m z,M[j]?=some m→d[j]?=some z→m=-1∨(z≤m∧m≤40)) d.length
  (fun i t=>∃ a' s' M,t=(c,a',s',(d,M),(i:Int))∧(a≤a'∧a'≤a+40+4*i)∧M.length=i∧∀ (j:Nat) m z,M[j]?=some m→d[j]?=some z→m=-1∨(z≤m∧m≤40)) (fun i t hi ht=>?_) d.length 0 (c,a1,s1,(d,[]),0) (by omega) ⟨a1,s1,[],rfl,by omega,rfl,by simp⟩
 ·obtain⟨q,hq,a2,s2,M,rfl,h2,hM,hall⟩:=key
  rw[hq,obs]
  exact⟨a2,s2,(d,M),rfl,h2,⟨hd.vd,hM,hall⟩,hd⟩
 ·obtain⟨a2,s2,M,rfl,h2,hM,hall⟩:=ht
  unfold spec_l05DrawSpace_o9d_l1_b
  simp only
  by_cases hn:i<d.length
  ·obtain⟨z,hz⟩:=get_at hn
   have hzb:=hb z (List.mem_of_getElem? hz)
   obtain⟨a3,s3,v,e3,h3,v0,v1⟩:=pick_out c a2 s2 4 (by omega) (by omega)
   rw[if_pos (by omega),if_pos (by omega),Int.toNat_natCast,hz,obs,e3,obs]
   have ext:∀ m,(m=-1∨(z≤m∧m≤40))→∀ (j:Nat) m' z',(M++[m])[j]?=some m'→d[j]?=some z'→m'=-1∨(z'≤m'∧m'≤40):=fun m hm j m' z' h4 h5=>by
    rcases Nat.lt_trichotomy j i with hj |hj |hj
    ·rw[List.getElem?_append_left (by omega)] at h4;exact hall j m' z' h4 h5
    ·subst hj
     rw[List.getElem?_append_right (by omega),hM,Nat.sub_self] at h4
     simp at h4
     rw[hz] at h5
     cases h5;subst h4;exact hm
    ·rw[List.getElem?_eq_none (by rw[List.length_append,List.length_singleton];omega)] at h4;cases h4
   simp only
   by_cases k0:v=0
   ·rw[if_pos k0,dsD_out _ _ _ _ _ _ (by simp only;omega),obs]
    exact .inr ⟨hn,_,rfl,a3,s3,M++[-1],by simp only[w1 (show i<9223372036854775807 by omega)];push_cast;rfl,by omega,by simp[hM],ext _ (.inl rfl)⟩
   ·rw[if_neg k0]
    by_cases k1:v=1
    ·rw[if_pos k1]
     obtain⟨a4,s4,u,e4,h4,u0,u1⟩:=pick_out c a3 s3 (IntKind.i64.wrap (41-z)) (by omega) (by omega)
     rw[wrap_in (n:=41-z) (by omega) (by omega)] at u1
     rw[e4,obs]
     simp only
     rw[dsD_out _ _ _ _ _ _ (by simp only;omega),obs]
     refine .inr ⟨hn,_,rfl,a4,s4,M++[IntKind.i64.wrap (z+u)],by simp only[w1 (show i<9223372036854775807 by omega)];push_cast;rfl,by omega,by simp[hM],ext _ ?_⟩
     rw[wrap_in (by omega) (by omega)];right;omega
    ·rw[if_neg k1,dsD_out _ _ _ _ _ _ (by simp only;omega),obs]
     exact .inr ⟨hn,_,rfl,a3,s3,M++[z],by simp only[w1 (show i<9223372036854775807 by omega)];push_cast;rfl,by omega,by simp[hM],ext _ (.inr ⟨by omega,by omega⟩)⟩
  ·rw[if_neg (by omega)]
   exact .inl ⟨_,rfl,a2,s2,M,rfl,by omega,by omega,hall⟩
theorem bent_out (c:List Bt) (a s:Int) (h0:0≤a) (h1:a≤700000):∃ a' s' l,spec_l05Bent_o9d c a s=some (c,a',s',l)∧(a≤a'∧a'≤a+60)∧l.length≤6:=by
 unfold spec_l05Bent_o9d
 obtain⟨a1,s1,d,e1,l1,hd⟩:=drwDims_out c a s h0 (by omega)
 have hd3:=hd.1
 obtain⟨a2,s2,v,e2,l2,v0,v1⟩:=pick_out c a1 s1 12 (by omega) (by omega)
 rw[e1,obs]
 simp only
 rw[e2,obs]
 simp only
 by_cases k0:v=0
 ·obtain⟨a3,s3,x,e3,l3,_⟩:=among_out c a2 s2 (lit [-1,40,41,0]) (by unfold lit;simp) (by omega) (by omega)
  rw[if_pos k0,e3,obs]
  simp only[if_true]
  rw[appL_one 8 _ _ (by unfold maxRow;omega),obs]
  exact⟨a3,s3,_,rfl,by omega,by simp;omega⟩
 rw[if_neg k0]
 by_cases k1:v=1
 ·have e:appL 8 d (lit [1,1,1])=some (d++[1,1,1]):=by unfold appL lit;rw[if_pos (by unfold maxRow;simp;omega)]
  rw[if_pos k1,e,obs]
  exact⟨a2,s2,_,rfl,by omega,by simp;omega⟩
 rw[if_neg k1]
 by_cases k2:v=2
 ·obtain⟨a3,s3,u,e3,l3,_⟩:=pick_out c a2 s2 2 (by omega) (by omega)
  rw[if_pos k2]
  unfold lit
  simp only[List.length_cons,List.length_nil,Int.toNat_one,List.getElem?_cons_succ,List.getElem?_cons_zero,obs,e3]
  rw[if_pos (by omega),if_pos ⟨by omega,trivial⟩,if_pos (by omega)]
  exact⟨a3,s3,_,rfl,by omega,by simp⟩
 ·rw[if_neg k2];exact⟨a2,s2,_,rfl,by omega,by omega⟩
theorem bentS_out (c:List Bt) (a s:Int) (h0:0≤a) (h1:a≤600000):∃ a' s' x,spec_l05BentSpace_o9d c a s=some (c,a',s',x)∧(a≤a'∧a'≤a+200)∧x.1.length≤6∧x.2.length≤6:=by
 unfold spec_l05BentSpace_o9d
 obtain⟨a1,s1,x,e1,l1,hx,_⟩:=drS_out c a s h0 (by omega)
 have hx1:=hx.1.1
 have hx2:=hx.2.1
 obtain⟨a2,s2,v,e2,l2,v0,v1⟩:=pick_out c a1 s1 10 (by omega) (by omega)
 rw[e1,obs]
 simp only
 rw[e2,obs]
 simp only
 by_cases k0:v=0
 ·obtain⟨a3,s3,l,e3,l3,hl⟩:=bent_out c a2 s2 (by omega) (by omega)
  rw[if_pos k0,e3,obs]
  exact⟨a3,s3,_,rfl,by omega,hl,by simp only;omega⟩
 rw[if_neg k0]
 by_cases k1:v=1
 ·obtain⟨a3,s3,u,e3,l3,_⟩:=pick_out c a2 s2 50 (by omega) (by omega)
  rw[if_pos k1,e3,obs,appL_one 8 _ _ (by unfold maxRow;omega),obs]
  exact⟨a3,s3,_,rfl,by omega,by simp only;omega,by simp;omega⟩
 rw[if_neg k1]
 by_cases k2:v=2
 ·rw[if_pos k2]
  by_cases hl:((x.2.length:Nat):Int)>0
  ·obtain⟨a3,s3,y,e3,l3,_⟩:=among_out c a2 s2 (lit [-2,0,40,41]) (by unfold lit;simp) (by omega) (by omega)
   obtain⟨z,hz⟩:=get_at (l:=x.2) (i:=0) (by omega)
   rw[if_pos hl,e3,obs]
   simp only[if_true,Int.toNat_zero]
   rw[if_pos ⟨by omega,by omega⟩,hz,obs]
   exact⟨a3,s3,_,rfl,by omega,by simp only;omega,by simp;omega⟩
  ·rw[if_neg hl];exact⟨a2,s2,_,rfl,by omega,by omega,by omega⟩
 ·rw[if_neg k2];exact⟨a2,s2,_,rfl,by omega,by omega,by omega⟩
theorem spP2_out (v:DScan) (D M:List Int) (d m:Int) (h:D.length≤1048577) (h':M.length≤1048577):impl_scanner_space_od0_p2 v (D,M) d m=some (v,(D++[d],M++[m])):=by
 unfold impl_scanner_space_od0_p2
 rw[appL_one 8 _ _ (by unfold maxRow;simp only;omega),obs,appL_one 8 _ _ (by unfold maxRow;simp only;omega),obs]
def Aft (t:Str):Prop:=∃ r,t=44::r∨t=41::r
theorem Aft.nc {t:Str} (h:Aft t):∀ x r,t=x::r→¬nc x:=by
 obtain⟨q,h⟩:=h
 intro x r e
 rcases h with h |h <;> (rw[h] at e;cases e;unfold TM.nc isD;decide)
theorem spP3_text (p:Int×Int) (t:Str) (b:Bool) (D M:List Int) (hp:OkP p) (ht:Aft t) (hs:(tE p++t).length≤1048576) (h:D.length≤1048577) (h':M.length≤1048577):impl_scanner_space_od0_p3 (tE p++t,b) (D,M)=some ((t,b),(D++[p.1],M++[p.2])):=by
 obtain⟨a1,a2,a3,a4⟩:=hp.b
 have h47:¬nc 47:=by unfold nc isD;decide
 unfold impl_scanner_space_od0_p3
 unfold tE at hs ⊢
 by_cases he:p.2=p.1
 ·rw[if_pos he] at hs ⊢
  rw[List.append_nil] at hs ⊢
  rw[number_itoa p.1 t b a1 (by omega) ht.nc hs,obs]
  have hl:t.length≤1048576:=by rw[List.length_append] at hs;omega
  obtain⟨r,hr⟩:=ht
  rw[accept_miss t [47,42] b hl (by rcases hr with rfl |rfl <;> (cases r <;> simp)),obs,if_neg (by simp),accept_miss t [47] b hl (by rcases hr with rfl |rfl <;> simp),obs,if_neg (by simp),spP2_out _ _ _ _ _ h h',he]
  rfl
 ·rw[if_neg he] at hs ⊢
  by_cases hm:p.2=-1
  ·rw[if_pos hm] at hs ⊢
   rw[List.append_assoc] at hs ⊢
   rw[number_itoa p.1 ([47,42]++t) b a1 (by omega) (by intro x r e;cases e;exact h47) hs,obs]
   have hl:([47,42]++t).length≤1048576:=by rw[List.length_append] at hs;omega
   rw[accept_hit [47,42] t b hl,obs,if_pos rfl,spP2_out _ _ _ _ _ h h',hm]
   rfl
  ·rw[if_neg hm] at hs ⊢
   rw[List.append_assoc,List.cons_append] at hs ⊢
   rw[number_itoa p.1 (47::(Lib.itoa p.2++t)) b a1 (by omega) (by intro x r e;cases e;exact h47) hs,obs]
   have hl:(47::(Lib.itoa p.2++t)).length≤1048576:=by rw[List.length_append] at hs;omega
   have hd:=itoa_dig (n:=p.2) (by omega)
   obtain⟨x,r,ex⟩:=List.exists_cons_of_ne_nil (itoa_ne p.2)
   have hx:x≠42:=fun hh=>by
    have:=hd x (by rw[ex];exact List.mem_cons_self)
    subst hh;exact absurd this (by unfold isD;decide)
   rw[accept_miss _ [47,42] b hl (by rw[ex];simp[hx]),obs,if_neg (by simp)]
   have hl2:(Lib.itoa p.2++t).length≤1048576:=by simp only[List.length_cons] at hl;omega
   have ha:impl_scanner_accept_o0b (47::(Lib.itoa p.2++t),b) [47]=some ((Lib.itoa p.2++t,b),true):=accept_hit [47] _ b hl
   simp only
   rw[ha,obs,if_pos rfl]
   simp only
   rw[number_itoa p.2 t b (by omega) (by omega) ht.nc hl2,obs,spP2_out _ _ _ _ _ h h']
   rfl
def rst (L:List (Int×Int)) (i:Nat):Str:=(if i=0 then Lib.join (L.map tE) [44] else Lib.joinTail [44] ((L.drop i).map tE))++[41]
theorem rst_at {L:List (Int×Int)} {i:Nat} {p:Int×Int} (h:L[i]?=some p):rst L i=(if i=0 then [] else [44])++(tE p++rst L (i+1)):=by
 have hi:=(List.getElem?_eq_some_iff.1 h).1
 have hd:L.drop i=p::L.drop (i+1):=by
  rw[List.drop_eq_getElem_cons hi,(List.getElem?_eq_some_iff.1 h).2]
 unfold rst
 rw[if_neg (show ¬i+1=0 by omega)]
 by_cases h0:i=0
 ·subst h0
  rw[if_pos rfl,if_pos rfl]
  rw[List.drop_zero] at hd
  conv=>lhs;rw[hd]
  rw[List.map_cons,Lib.join_cons];simp
 ·rw[if_neg h0,if_neg h0,hd,List.map_cons];simp[Lib.joinTail]
theorem rst_aft (L:List (Int×Int)) (i:Nat):Aft (rst L (i+1)):=by
 unfold rst
 rw[if_neg (by omega)]
 cases h:L.drop (i+1) with
 |nil=>exact⟨[],.inr (by simp[Lib.joinTail])⟩
 |cons p t=>exact⟨_,.inl (by simp only[List.map_cons,Lib.joinTail,List.flatten_cons,List.cons_append,List.nil_append];rfl)⟩
theorem rst_end (L:List (Int×Int)) (i:Nat) (h:L.length≤i):rst L i=[41]:=by
 unfold rst
 by_cases h0:i=0
 ·subst h0;rw[List.eq_nil_of_length_eq_zero (show L.length=0 by omega),if_pos rfl];rfl
 ·rw[if_neg h0,List.drop_of_length_le h];rfl
theorem spaceI_text (s:DSpc) (h:VS s):impl_scanner_space_od0 (tS s,false)=some (([],false),s):=by
 obtain⟨D0,M0⟩:=s
 obtain⟨z1,z2,z3⟩:=h.zip
 have hlen:=tS_le h
 have hl2:=h.2.1
 simp only at z1 z2 z3 hlen hl2
 have hr0:tS (D0,M0)=[40]++rst (D0.zip M0) 0:=by unfold tS rst;rw[if_pos rfl];rfl
 have hrl:∀ i,i≤(D0.zip M0).length→(rst (D0.zip M0) i).length≤133:=by
  intro i
  induction i with
  |zero=>intro _;unfold rst;rw[if_pos rfl,List.length_append,List.length_singleton];omega
  |succ i ih =>
   intro hi
   obtain⟨p,hp⟩:=get_at (l:=D0.zip M0) (i:=i) (by omega)
   have:=ih (by omega)
   rw[rst_at hp,List.length_append,List.length_append] at this
   omega
 unfold impl_scanner_space_od0 impl_scanner_space_od0_l1
 rw[hr0,expect_hit [40] _ false (by have:=hrl 0 (by omega);simp only[List.length_append,List.length_cons,List.length_nil];omega),obs]
 rw[loop_some (r:=(([],false),(D0,M0))) (D0.zip M0).length (fun i t=>t=((rst (D0.zip M0) i,false),(D0.take i,M0.take i))) (fun i t hi ht=>?_) (D0.zip M0).length 0 _ (by omega) (by simp),obs]
 subst ht
 unfold impl_scanner_space_od0_l1_b
 simp only
 rw[if_pos (by simp)]
 have hrs:=hrl i hi
 by_cases hn:i<(D0.zip M0).length
 ·obtain⟨p,hp⟩:=get_at hn
  obtain⟨x1,x2⟩:=zip_get (s:=(D0,M0)) hp
  simp only at x1 x2
  have hok:=z3 p (List.mem_of_getElem? hp)
  have ea:=rst_at hp
  have hs1:D0.take (i+1)=D0.take i++[p.1]:=by rw[List.take_add_one,x1];rfl
  have hs2:M0.take (i+1)=M0.take i++[p.2]:=by rw[List.take_add_one,x2];rfl
  have hb1:(D0.take i).length≤1048577:=by rw[List.length_take];omega
  have hb2:(M0.take i).length≤1048577:=by rw[List.length_take];omega
  have hdl:(D0.take i).length=i:=by rw[List.length_take];omega
  have hp3:=spP3_text p (rst (D0.zip M0) (i+1)) false (D0.take i) (M0.take i) hok (rst_aft _ _) (by rw[ea,List.length_append] at hrs;omega) hb1 hb2
  refine .inr ⟨hn,((rst (D0.zip M0) (i+1),false),(D0.take (i+1),M0.take (i+1))),?_,rfl⟩
  have hmiss:(rst (D0.zip M0) i).take ([41]:Str).length≠[41]:=by
   rw[ea]
   by_cases h0:i=0
   ·rw[if_pos h0]
    obtain⟨x,r,ex⟩:=List.exists_cons_of_ne_nil (itoa_ne p.1)
    have:=itoa_dig (n:=p.1) (by have:=hok.b;omega) x (by rw[ex];exact List.mem_cons_self)
    have hx:x≠41:=fun hh=>by subst hh;exact absurd this (by unfold isD;decide)
    unfold tE;rw[ex];simp[hx]
   ·rw[if_neg h0];simp
  rw[accept_miss _ [41] false (by omega) hmiss,obs,if_pos (by simp),hdl]
  by_cases h0:i=0
  ·rw[if_neg (by omega)]
   rw[if_pos h0,List.nil_append] at ea
   simp only
   rw[ea,hp3,hs1,hs2];rfl
  ·rw[if_pos (by omega)]
   rw[if_neg h0] at ea
   simp only
   rw[ea,expect_hit [44] _ false (by rw[← ea];omega),obs,hp3,hs1,hs2];rfl
 ·refine .inl ?_
  rw[rst_end _ _ (by omega)]
  have:=accept_hit [41] [] false (by simp)
  rw[List.append_nil] at this
  rw[this,obs,if_neg (by simp),List.take_of_length_le (by omega),List.take_of_length_le (by omega)]
def Fit (x:DSpc) (d:List Int):Prop:=d.length=x.1.length∧∀ (i:Nat) m z,x.2[i]?=some m→d[i]?=some z→m=-1∨z≤m
theorem fit_vs {x:DSpc} {d:List Int} (hx:VS x) (hd:VD d):VS (d,x.2)↔Fit x d:=by
 constructor
 ·intro h
  exact⟨by have:=h.2.1;have:=hx.2.1;simp only at *;omega,fun i m z h1 h2=>by rcases h.2.2 i m z h1 h2 with a |a;exact .inl a;exact .inr a.1⟩
 ·intro h
  refine⟨hd,by have:=hx.2.1;have:=h.1;simp only;omega,fun i m z h1 h2=>?_⟩
  simp only at h1 h2
  rcases h.2 i m z h1 h2 with a |a
  ·exact .inl a
  ·obtain⟨y,hy⟩:=get_at (l:=x.1) (i:=i) (by have:=(List.getElem?_eq_some_iff.1 h2).1;have:=h.1;omega)
   rcases hx.2.2 i m y h1 hy with b |b
   ·exact .inl b
   ·exact .inr ⟨a,b.2⟩
open Classical in
theorem resz_out (x:DSpc) (d:List Int) (hx:VS x) (hd:d.length≤1000):impl_Space_resizable x d=some (decide (Fit x d)):=by
 unfold impl_Space_resizable impl_Space_resizable_l1
 by_cases hl:(d.length:Int)=(x.1.length:Int)
 ·rw[if_neg (not_not_intro hl),loop_all d.length (fun i=>∀ m z,x.2[i]?=some m→d[i]?=some z→m=-1∨z≤m) (fun s=>impl_Space_resizable_l1_b x d (d.length:Int) s) (.inl ()) (.inr false) (fun i hi hp=>?_) (fun i hi hp=>?_) (by simp[impl_Space_resizable_l1_b]),obs]
  ·by_cases hf:Fit x d
   ·rw[if_pos (fun i _=>hf.2 i)];exact dT hf
   ·rw[if_neg (fun h=>hf ⟨by omega,fun i m z h1 h2=>h i (List.getElem?_eq_some_iff.1 h2).1 m z h1 h2⟩)];exact dF hf
  ·obtain⟨z,hz⟩:=get_at hi
   obtain⟨m,hm⟩:=get_at (l:=x.2) (i:=i) (by have:=hx.2.1;omega)
   have:=hp m z hm hz
   unfold impl_Space_resizable_l1_b
   rw[if_pos (by omega),if_pos (by omega),Int.toNat_natCast,hz,obs,if_pos (by omega),hm,obs]
   by_cases h1:m=-1
   ·rw[if_neg (not_not_intro h1),w1 (by omega)]
   ·rw[if_pos h1,if_pos (by omega),obs,if_neg (by omega),w1 (by omega)]
  ·obtain⟨z,hz⟩:=get_at hi
   obtain⟨m,hm⟩:=get_at (l:=x.2) (i:=i) (by have:=hx.2.1;omega)
   have hn:¬(m=-1∨z≤m):=fun h=>hp fun m' z' h1 h2=>by rw[hm] at h1;rw[hz] at h2;cases h1;cases h2;exact h
   unfold impl_Space_resizable_l1_b
   rw[if_pos (by omega),if_pos (by omega),Int.toNat_natCast,hz,obs,if_pos (by omega),hm,obs,if_pos (by omega),if_pos (by omega),obs,if_pos (by omega)]
 ·rw[if_pos hl];exact dF (fun h=>hl (by have:=h.1;omega))
theorem clone_out (l:List Int) (h:l.length≤1000):slices_Clone_int64_int64_ l=some l:=by
 unfold slices_Clone_int64_int64_
 exact appL_nil 8 l (by unfold maxRow;omega)
theorem vsS_out (x:DSpc) (h:VS x):spec_ValidSpace x=some true:=by
 unfold spec_ValidSpace
 obtain⟨b,e,v⟩:=sSpace_out x
 rw[e,obs,v.2 h]
theorem sameI_out (l:List Int) (h:l.length≤1048576):spec_l00Same l l=some true:=by
 unfold spec_l00Same spec_l00Same_l1
 rw[if_neg (by simp),loop_eq l l rfl (fun s=>spec_l00Same_l1_b l l s) (.inl ()) (.inr false) (fun i x hi hx hx2=>by
  have hx':=(List.getElem?_eq_some_iff.1 hx).2
  simp[spec_l00Same_l1_b,hi,hx',w1 (show i<9223372036854775807 by omega)]) (fun i x y hi hx hy hxy=>by
  rw[hx] at hy;cases hy;exact absurd rfl hxy) (by simp[spec_l00Same_l1_b])]
 simp
theorem sameSp_out (s:DSpc) (h:s.1.length≤1000) (h':s.2.length≤1000):spec_SameSpace s s=some true:=by
 unfold spec_SameSpace
 rw[sameI_out _ (by omega),obs,if_pos rfl,sameI_out _ (by omega),obs]
theorem bad_out (x:DSpc) (h:¬VS x):spec_ValidSpace x=some false∧impl_EncodeSpace x=some []∧impl_SpaceText x=some []:=by
 obtain⟨b,e,v⟩:=sSpace_out x
 obtain⟨b',e',v'⟩:=iSpace_out x
 have hb:b=false:=by cases b with |true=>exact absurd (v.1 rfl) h |false=>rfl
 have hb':b'=false:=by cases b' with |true=>exact absurd (v'.1 rfl) h |false=>rfl
 subst hb hb'
 unfold spec_ValidSpace impl_EncodeSpace impl_SpaceText
 simp only[e,e',obs,Bool.false_eq_true,not_false_eq_true,if_true,and_self]
open Classical in
theorem good_out (s:DSpc) (h:VS s):impl_SpaceText s=some (tS s)∧impl_ReadSpace (tS s)=some (s,true)∧impl_ResizeSpace s s.1=some (s,0):=by
 obtain⟨b',e',v'⟩:=iSpace_out s
 rw[v'.2 h] at e'
 have h1:=h.1.1
 have h2:=h.2.1
 have ht:(tS s).length≤1048576:=by
  have:=tS_le h
  unfold tS;simp only[List.length_append,List.length_cons,List.length_nil];omega
 refine⟨?_,?_,?_⟩
 ·unfold impl_SpaceText
  rw[e',obs,if_neg (not_not_intro rfl),iText_out s h,obs]
 ·unfold impl_ReadSpace
  rw[spaceI_text s h,obs]
  simp only[Bool.false_eq_true,if_false]
  rw[e',obs,if_neg (not_not_intro rfl),iText_out s h,obs,if_neg (not_not_intro rfl)]
 ·have hf:Fit s s.1:=(fit_vs h h.1).1 h
  unfold impl_ResizeSpace
  rw[e',obs,if_neg (not_not_intro rfl),vd_true h.1,obs,if_neg (not_not_intro rfl),resz_out s s.1 h (by omega),obs,if_neg (by simp[hf]),clone_out _ (by omega),obs,clone_out _ (by omega),obs]
theorem FnSpaces_l2_out (s:DSpc) (n k:Int) (h:VS s) (hk:0≤k) (hp:k<prodP s.1):laws_FnSpaces_l2 s n k (coordL s.1 k) 0=some (.inl (s,n,k)):=by
 have h1:=h.1.1
 have hpos:=prodP_pos (fun x hx=>(h.1.2.1 x hx).1) (show 0<prodP s.1 by omega)
 unfold laws_FnSpaces_l2
 rw[loop_some (r:=.inl (s,n,k)) s.1.length (fun i t=>t=(i:Int)) (fun i t hi ht=>?_) s.1.length 0 0 (by omega) rfl]
 subst ht
 unfold laws_FnSpaces_l2_b
 by_cases hn:i<s.1.length
 ·obtain⟨d,hd⟩:=get_at hn
  obtain⟨a,ha,a0,a1⟩:=coordL_at hpos (i:=k) hd
  rw[if_pos (by rw[coordL_len];omega),if_pos (by rw[coordL_len];omega),Int.toNat_natCast,ha,obs,if_neg (by omega),if_pos (by rw[coordL_len];omega),obs,if_pos (by omega),hd,obs,if_neg (by omega),w1 (by omega)]
  exact .inr ⟨hn,_,rfl,by push_cast;rfl⟩
 ·rw[if_neg (by rw[coordL_len];omega)];exact .inl rfl
theorem FnSpaces_l1_out (s:DSpc) (h:VS s):laws_FnSpaces_l1 (s,prodP s.1,0)=some (.inl (s,prodP s.1)):=by
 obtain⟨p1,p2,p3⟩:=vd_prod h.1
 obtain⟨N,hN⟩:∃ N:Nat,prodP s.1=N:=⟨(prodP s.1).toNat,by omega⟩
 unfold laws_FnSpaces_l1
 rw[loop_some (r:=.inl (s,prodP s.1)) N (fun i t=>t=(s,prodP s.1,(i:Int))) (fun i t hi ht=>?_) N 0 (s,prodP s.1,0) (by omega) rfl]
 subst ht
 unfold laws_FnSpaces_l1_b
 simp only
 by_cases hn:i<N
 ·rw[if_pos (by omega),coords_at h.1 (by omega) (by omega),obs,if_neg (by rw[coordL_len];exact not_not_intro rfl),index_out h.1 (by omega) (by omega),obs,if_neg (not_not_intro rfl),FnSpaces_l2_out s _ _ h (by omega) (by omega),obs]
  simp only[Sum.elim_inl]
  rw[w1 (by omega)]
  exact .inr ⟨hn,_,rfl,by push_cast;rfl⟩
 ·rw[if_neg (by omega)];exact .inl rfl
theorem FnSpaces_true (c:List Bt) (h:Gd.ok c):laws_FnSpaces c=some true:=by
 unfold laws_FnSpaces
 by_cases h1:(c.length:Int)>1048576
 ·rw[if_pos h1]
 rw[if_neg h1]
 obtain⟨a,s,x,e,la,l1,l2⟩:=bentS_out c 0 0 (by omega) (by omega)
 have hd:spec_DrawEncodeSpace c=some x:=by
  unfold spec_DrawEncodeSpace spec_l00From
  simp only[obs,e]
 rw[hd,obs]
 by_cases hv:VS x
 ·obtain⟨g1,g2,g3⟩:=good_out x hv
  obtain⟨p1,p2,p3⟩:=vd_prod hv.1
  rw[encI_out x hv,obs,g1,obs,vsS_out x hv,obs,if_neg (not_not_intro rfl),decSI_text x hv,obs,g2,obs,g3,obs]
  simp only[not_true_eq_false,if_false]
  rw[sameSp_out x (by omega) (by omega),obs,if_neg (not_not_intro rfl),obs,if_neg (not_not_intro rfl),obs,if_neg (not_not_intro rfl),elems_out hv.1,obs,FnSpaces_l1_out x hv,obs]
  simp only[Sum.elim_inl]
  rw[if_pos p3,coords_off hv.1 (.inr (Int.le_refl _)),obs,if_pos (by simp),coords_off hv.1 (.inl (by omega)),obs]
  exact dT' (by simp)
 ·obtain⟨b1,b2,b3⟩:=bad_out x hv
  rw[b2,obs,b3,obs,b1,obs,if_pos (by simp),if_pos rfl]
  exact congrArg some (decide_eq_true rfl)
end Go.Proofs.TM
