import Derived.Test.YtcmhbjnmjfhgaaaDoorLPB
import Derived.Test.YtcmhbjnmjfhgaaaDoorLPA
namespace Go.Proofs.TM
open Go Go.Proofs
set_option maxHeartbeats 1000000
abbrev RdD:=Str×Bool
def rdT (r:RdD) (n:Nat):RdD×Str:=if n≤r.1.length then ((r.1.drop n,r.2),r.1.take n) else ((r.1,true),[])
def rdN (r:RdD) (n:Nat):RdD×Int:=((rdT r n).1,(leN (rdT r n).2:Int))
theorem rdT_len (r:RdD) (n:Nat):(rdT r n).1.1.length≤r.1.length∧(rdT r n).2.length≤n∧(r.2=true→(rdT r n).1.2=true):=by
 unfold rdT
 split
 ·exact⟨by simp,by simp;omega,fun h=>h⟩
 ·exact⟨Nat.le_refl _,by simp,fun _=>rfl⟩
theorem rdB_in (r:RdD):0≤(rdN r 1).2∧(rdN r 1).2≤255:=by
 have h1:=leN_lt (rdT r 1).2
 have h2:=(rdT_len r 1).2.1
 have:256 ^ (rdT r 1).2.length≤256 ^ 1:=Nat.pow_le_pow_right (by omega) (by omega)
 unfold rdN
 simp only
 omega
theorem iTake_out (r:RdD) (n:Nat) (hn:n≤1048576) (hs:r.1.length≤1048576):impl_decoder_take_o1a r n=some (rdT r n):=by
 obtain⟨s,b⟩:=r
 simp only at hs
 unfold impl_decoder_take_o1a impl_cut rdT
 rw[if_neg (by omega),within_out,obs,wrap_in (n:=(s.length:Int)-n) (by omega) (by omega)]
 by_cases h:n≤s.length
 ·rw[if_neg (by simp;omega),wrap_in (n:=(0:Int)+n) (by omega) (by omega),if_pos h]
  have e1:subL s (some 0) (some (0+(n:Int)))=some (s.take n):=by
   have:=subL_mid s 0 n (by omega) h
   simpa using this
  rw[e1,obs,obs]
  simp only[not_true_eq_false,if_false]
  rw[subL_from s n h];rfl
 ·rw[if_pos (by simp;omega),if_neg h];rfl
theorem iNum_out (r:RdD) (n:Nat) (hn:n≤7) (hs:r.1.length≤1048576):impl_decoder_number_o1a r n=some (rdN r n):=by
 have h1:=leN_lt (rdT r n).2
 have h2:=(rdT_len r n).2.1
 have:256 ^ (rdT r n).2.length≤256 ^ 7:=Nat.pow_le_pow_right (by omega) (by omega)
 unfold impl_decoder_number_o1a rdN
 rw[iTake_out r n (by omega) hs,obs,getBits_out _ (by omega),obs,wrap_in (by omega) (by omega)]
theorem iByte_out (r:RdD) (hs:r.1.length≤1048576):impl_decoder_byte_od0 r=some (rdN r 1):=by
 unfold impl_decoder_byte_od0
 rw[show impl_decoder_number_o1a r 1=some (rdN r 1) from iNum_out r 1 (by omega) hs];rfl
abbrev Rs:=Str×Int×Bool
def RsOk (x:Rs) (s:Str) (r:RdD):Prop:=∃ a:Nat,x=(s,(a:Int),r.2)∧a≤s.length∧r.1=s.drop a
theorem RsOk.all {x:Rs} {s:Str} {r:RdD} (h:RsOk x s r):x.1=s:=by obtain⟨a,rfl,_⟩:=h;rfl
theorem RsOk.len {x:Rs} {s:Str} {r:RdD} (h:RsOk x s r):r.1.length≤s.length:=by obtain⟨a,_,_,h3⟩:=h;rw[h3];simp
theorem RsOk.end {x:Rs} {s:Str} {r:RdD} (h:RsOk x s r):x.2.1=(s.length:Int)↔r.1=[]:=by
 obtain⟨a,rfl,h2,h3⟩:=h
 rw[h3,List.drop_eq_nil_iff]
 simp only
 omega
theorem leB_one (n:Int) (h0:0≤n) (h1:n≤255):leB n 1=[UInt8.ofNat n.toNat]∧leN (leB n 1)=n.toNat:=by
 have e:leB n 1=[UInt8.ofNat n.toNat]:=by
  unfold leB byB
  simp only[List.range_succ,List.range_zero,List.nil_append,List.map_cons,List.map_nil]
  have:shrV .i64 n (8*((0:Nat):Int))=n:=by
   unfold shrV
   simp
  rw[this,Int.emod_eq_of_lt h0 (by omega)]
 refine⟨e,?_⟩
 rw[e]
 simp only[leN,Nat.mul_zero,Nat.add_zero]
 rw[UInt8.toNat_ofNat'];omega
theorem put1 (n:Int):impl_putBytes n 1=some (leB n 1):=putBytes_out n 1 (by omega)
theorem rdN_one (n:Int) (h0:0≤n) (h1:n≤255) (t:Str) (b:Bool):rdN (leB n 1++t,b) 1=((t,b),n):=by
 obtain⟨e1,e2⟩:=leB_one n h0 h1
 unfold rdN rdT
 rw[if_pos (by simp)]
 simp only
 rw[List.take_left' (leB_length n 1),List.drop_left' (leB_length n 1),e2]
 congr 1;omega
theorem putU1 (n:Int) (h0:0≤n) (h1:n≤255):spec_l01PutUint n 1=some (leB n 1):=by
 unfold spec_l01PutUint spec_l01PutUint_p1
 have e:IntKind.u64.wrap (8*IntKind.u64.wrap 1)=8:=by decide
 have hsh:shrV .i64 n 8=0:=by
  unfold shrV
  simp only[show IntKind.i64.bits=64 from rfl]
  rw[show min (8:Int).toNat 64=8 by decide]
  rw[Int.fdiv_eq_ediv_of_nonneg _ (by decide)]
  exact Int.ediv_eq_zero_of_lt h0 (by omega)
 rw[l00In_out,obs,if_neg (by simp),if_neg (by omega),if_pos (by decide),e,if_neg (by decide),hsh,if_neg (by simp)]
 have:=l01Bytes_out n 1 (by omega) (by omega) (by omega)
 rw[show (((1:Nat):Nat):Int)=1 from rfl] at this
 rw[this];rfl
theorem subL_split (t:Str) (v:Int) (h0:0≤v) (h1:v<t.length∨v=0):∃ a b,subL t none (some v)=some a∧subL t (some v) none=some b∧a.length≤t.length∧b.length≤t.length:=by
 have e:v=((v.toNat:Nat):Int):=by omega
 rw[e]
 exact⟨_,_,subL_to t _ (by omega),subL_from t _ (by omega),by simp;omega,by simp⟩
theorem and255u (x:Int):0≤bitV .and .u64 x 255∧bitV .and .u64 x 255≤255:=by
 have h:((BitVec.ofInt 64 x) &&& (BitVec.ofInt 64 255)).toNat≤255:=by
  rw[BitVec.toNat_and];exact Nat.le_trans Nat.and_le_right (by decide)
 have e:bitV .and .u64 x 255=IntKind.u64.wrap (((BitVec.ofInt 64 x) &&& (BitVec.ofInt 64 255)).toNat:Int):=rfl
 rw[e]
 generalize ((BitVec.ofInt 64 x) &&& (BitVec.ofInt 64 255)).toNat=m at h
 rw[IntKind.wrap_u64];omega
theorem next_out (c:List Bt) (a s:Int) (h0:0≤a) (h1:a≤1000000):∃ s' v,spec_l00Src_next_o9d c a s=some (c,a+1,s',v)∧0≤v∧v≤255:=by
 have hp:∀ b:Int,0≤b→b≤255→∃ s' v,spec_l00Src_next_o9d_p1 c a s b=some (c,a+1,s',v)∧0≤v∧v≤255:=fun b hb hb'=>by
  unfold spec_l00Src_next_o9d_p1
  rw[wrap_in (n:=a+1) (by omega) (by omega)]
  split
  ·exact⟨_,_,rfl,hb,hb'⟩
  ·have:=and255u (shrV .u64 (IntKind.u64.wrap (IntKind.u64.wrap (IntKind.u64.wrap (s*6364136223846793005)+IntKind.u64.wrap b)+1442695040888963407)) 40)
   exact⟨_,_,rfl,by rw[wrap_in (by omega) (by omega)];exact this.1,by rw[wrap_in (by omega) (by omega)];exact this.2⟩
 unfold spec_l00Src_next_o9d
 by_cases h:a<(c.length:Int)
 ·rw[if_pos h,if_pos h0]
  obtain⟨x,hx⟩:=get_at (l:=c) (i:=a.toNat) (by omega)
  have hb:(x.v.toNat:Int)≤255:=by have:=x.v.toNat_lt;omega
  rw[hx,obs,wrap_in (n:=(x.v.toNat:Int)) (by omega) (by omega)]
  obtain⟨s',v,e,h2⟩:=hp x.v.toNat (by omega) hb
  exact⟨s',v,by rw[e];rfl,h2⟩
 ·rw[if_neg h]
  obtain⟨s',v,e,h2⟩:=hp 0 (by omega) (by omega)
  exact⟨s',v,by rw[e];rfl,h2⟩
theorem pick_out (c:List Bt) (a s n:Int) (h0:0≤a) (h1:a≤999999):∃ a' s' v,spec_l00Src_pick_o30 c a s n=some (c,a',s',v)∧(a≤a'∧a'≤a+2)∧0≤v∧(v<n∨v=0):=by
 unfold spec_l00Src_pick_o30
 by_cases hn:n≤1
 ·rw[if_pos hn];exact⟨a,s,0,rfl,by omega,by omega,.inr rfl⟩
 rw[if_neg hn]
 obtain⟨s1,v1,e1,l1,u1⟩:=next_out c a s h0 (by omega)
 rw[e1,obs]
 have hz:¬n=0:=by omega
 have tm:∀ v:Int,0≤v→0≤Int.tmod v n∧Int.tmod v n<n:=fun v hv=>by
  rw[Int.tmod_eq_emod_of_nonneg hv]
  exact⟨Int.emod_nonneg _ (by omega),Int.emod_lt_of_pos _ (by omega)⟩
 by_cases h2:n>200
 ·rw[if_pos h2]
  obtain⟨s2,v2,e2,l2,u2⟩:=next_out c (a+1) s1 (by omega) (by omega)
  simp only
  rw[e2,obs,if_neg hz]
  have e3:IntKind.i64.wrap (v1*256)=v1*256:=wrap_in (by omega) (by omega)
  have e4:IntKind.i64.wrap (v1*256+v2)=v1*256+v2:=wrap_in (by omega) (by omega)
  have:=tm (v1*256+v2) (by omega)
  refine⟨a+1+1,s2,_,rfl,by omega,?_,?_⟩
  ·simp only[e3,e4];exact this.1
  ·simp only[e3,e4];exact .inl this.2
 ·rw[if_neg h2,if_neg hz]
  have:=tm v1 l1
  exact⟨a+1,s1,_,rfl,by omega,this.1,.inl this.2⟩
theorem one_out (c:List Bt) (a s n:Int) (h0:0≤a) (h1:a≤999999):∃ a' s' b,spec_l00Src_one_o30 c a s n=some (c,a',s',b)∧(a≤a'∧a'≤a+2):=by
 obtain⟨a',s',v,e,h2,_⟩:=pick_out c a s n h0 h1
 exact⟨a',s',_,by unfold spec_l00Src_one_o30;rw[e];rfl,h2⟩
theorem among_out (c:List Bt) (a s:Int) (l:List Int) (hl:0<l.length) (h0:0≤a) (h1:a≤999999):∃ a' s' x,spec_l00Src_among_o72 c a s l=some (c,a',s',l,x)∧(a≤a'∧a'≤a+2)∧x∈l:=by
 obtain⟨a',s',v,e,h2,h3,h4⟩:=pick_out c a s l.length h0 h1
 obtain⟨x,hx⟩:=get_at (l:=l) (i:=v.toNat) (by omega)
 refine⟨a',s',x,?_,h2,List.mem_of_getElem? hx⟩
 unfold spec_l00Src_among_o72
 rw[e,obs]
 simp only
 rw[if_pos (by omega),hx];rfl
def tr (b:Bool):Int:=if b then 1 else 0
def eF (f:DFil):Str:=leB f.1 1++leB f.2.1 1++leB (tr f.2.2) 1
def eP (l:List DFil):Str:=leB l.length 1++(l.map eF).flatten
theorem eF_len (f:DFil):(eF f).length=3:=by simp[eF]
theorem eFs_len (l:List DFil):((l.map eF).flatten).length=3*l.length:=by
 induction l with
 |nil=>rfl
 |cons f l ih=>rw[List.map_cons,List.flatten_cons,List.length_append,ih,eF_len,List.length_cons];omega
theorem eP_len (l:List DFil):(eP l).length=1+3*l.length:=by unfold eP;rw[List.length_append,eFs_len,leB_length]
theorem truth_out (b:Bool):impl_truth b=some (tr b):=by unfold impl_truth tr;cases b <;> rfl
theorem encP_out (l:List DFil) (h:l.length≤1000):impl_encodePipeline l=some (eP l):=by
 unfold impl_encodePipeline impl_encodePipeline_l1
 rw[put1,obs,loop_some (r:=eP l) l.length (fun i t=>t=(leB l.length 1++((l.take i).map eF).flatten,(i:Int))) (fun i t hi ht=>?_) l.length 0 (leB l.length 1,0) (by omega) (by simp),obs]
 subst ht
 unfold impl_encodePipeline_l1_b
 simp only
 by_cases hn:i<l.length
 ·obtain⟨x,hx⟩:=get_at hn
  have hl:=eFs_len (l.take i)
  rw[List.length_take] at hl
  rw[if_pos (by omega),if_pos (by omega),Int.toNat_natCast,hx,obs,put1,obs,put1,obs,if_pos (by simp),truth_out,obs,put1,obs,if_pos (by simp),if_pos (by simp only[List.length_append,leB_length,hl];omega),w1 (by omega)]
  refine .inr ⟨hn,_,rfl,?_⟩
  rw[List.take_add_one,hx]
  simp only[Option.toList_some,List.map_append,List.map_cons,List.map_nil,List.flatten_append,List.flatten_cons,List.flatten_nil,List.append_nil,List.append_assoc]
  rfl
 ·have:i=l.length:=by omega
  subst this
  rw[if_neg (by omega),List.take_length];exact .inl rfl
theorem encodeI_out (l:List DFil) (h:VP l):impl_EncodePipeline l=some (eP l):=by
 unfold impl_EncodePipeline
 obtain⟨b,hb,hv⟩:=iPip_out l
 rw[hb,obs,hv.2 h,if_neg (not_not_intro rfl),encP_out l (by have:=h.1;omega),obs]
theorem tr_in (b:Bool):0≤tr b∧tr b≤255∧decide (tr b=1)=b:=by cases b <;> simp[tr]
theorem decP_any (s:Str) (hs:s.length≤1048576):∃ v l,(impl_decoder_byte_od0 (s,false)).bind (fun r1=>impl_DecodePipeline_l1 s (r1.1,[],r1.2))=some (s,v,l)∧l.length≤255:=by
 rw[iByte_out (s,false) hs,obs]
 have hb:=rdB_in (s,false)
 have hl:=(rdT_len (s,false) 1).1
 have hl':(rdN (s,false) 1).1.1.length≤s.length:=hl
 generalize rdN (s,false) 1=p at hb hl'
 obtain⟨v,n⟩:=p
 simp only at hb hl' ⊢
 unfold impl_DecodePipeline_l1
 have key:=loop_ex (f:=fun t:DScan×List DFil×Int=>impl_DecodePipeline_l1_b s t.1 t.2.1 t.2.2) (fun q=>∃ v l,q=(s,v,l)∧l.length≤255) n.toNat (fun i t=>t.1.1.length≤s.length∧t.2.1.length=i∧t.2.2=n-i) (fun i t hi ht=>?_) n.toNat 0 (v,[],n) (by omega) ⟨hl',rfl,by simp⟩
 ·obtain⟨q,hq,v,l,rfl,h⟩:=key
  exact⟨v,l,hq,h⟩
 ·obtain⟨v,l,k⟩:=t
  obtain⟨h1,h2,rfl⟩:=ht
  simp only at h1 h2
  unfold impl_DecodePipeline_l1_b
  simp only
  by_cases hn:i<n.toNat
  ·rw[if_pos (by omega)]
   by_cases hv:v.2=true
   ·rw[if_neg (not_not_intro hv)];exact .inl ⟨_,rfl,v,l,rfl,by omega⟩
   ·have q1:=(rdT_len v 1).1
    have q2:=(rdT_len (rdN v 1).1 1).1
    have q3:=(rdT_len (rdN (rdN v 1).1 1).1 1).1
    have r1:(rdN v 1).1.1.length≤v.1.length:=q1
    have r2:(rdN (rdN v 1).1 1).1.1.length≤(rdN v 1).1.1.length:=q2
    have r3:(rdN (rdN (rdN v 1).1 1).1 1).1.1.length≤(rdN (rdN v 1).1 1).1.1.length:=q3
    rw[if_pos hv,iByte_out v (by omega),obs,iByte_out _ (by omega),obs,iByte_out _ (by omega),obs,appL_one 24 _ _ (by unfold maxRow;omega),obs]
    refine .inr ⟨hn,_,rfl,by simp only;omega,by simp[h2],?_⟩
    simp only
    rw[wrap_in (by omega) (by omega)];push_cast;omega
  ·rw[if_neg (by omega)];exact .inl ⟨_,rfl,v,l,rfl,by omega⟩
theorem decP_text (l:List DFil) (h:VP l):(impl_decoder_byte_od0 (eP l,false)).bind (fun r1=>impl_DecodePipeline_l1 (eP l) (r1.1,[],r1.2))=some (eP l,([],false),l):=by
 have hl:=h.1
 have he:=eP_len l
 rw[iByte_out (eP l,false) (by simp only;omega),obs]
 have e0:rdN (eP l,false) 1=(((l.map eF).flatten,false),(l.length:Int)):=rdN_one l.length (by omega) (by omega) _ _
 rw[e0]
 simp only
 unfold impl_DecodePipeline_l1
 refine loop_some l.length (fun i t=>t=((((l.drop i).map eF).flatten,false),l.take i,(l.length:Int)-i)) (fun i t hi ht=>?_) l.length 0 _ (by omega) (by simp)
 subst ht
 unfold impl_DecodePipeline_l1_b
 simp only
 by_cases hn:i<l.length
 ·obtain⟨f,hf⟩:=get_at hn
  have hd:l.drop i=f::l.drop (i+1):=by
   rw[List.drop_eq_getElem_cons (List.getElem?_eq_some_iff.1 hf).1,(List.getElem?_eq_some_iff.1 hf).2]
  obtain⟨k1,k2,k3,k4⟩:=(h.2 f (List.mem_of_getElem? hf)).k
  have hdl:=eFs_len (l.drop (i+1))
  rw[List.length_drop] at hdl
  obtain⟨t1,t2,t3⟩:=tr_in f.2.2
  rw[hd,List.map_cons,List.flatten_cons,show eF f++((l.drop (i+1)).map eF).flatten=leB f.1 1++(leB f.2.1 1++(leB (tr f.2.2) 1++((l.drop (i+1)).map eF).flatten)) by unfold eF;simp only[List.append_assoc]]
  generalize hR:((l.drop (i+1)).map eF).flatten=R at hdl ⊢
  have hB:∀ (n:Int) (t:Str),0≤n→n≤255→(leB n 1++t).length≤1048576→impl_decoder_byte_od0 (leB n 1++t,false)=some ((t,false),n):=fun n t a b c=>by rw[iByte_out _ c,rdN_one n a b]
  rw[if_pos (by omega),if_pos (by simp),hB f.1 _ (by omega) (by omega) (by simp only[List.length_append,leB_length];omega),obs]
  simp only
  rw[hB f.2.1 _ (by omega) (by omega) (by simp only[List.length_append,leB_length];omega),obs]
  simp only
  rw[hB (tr f.2.2) _ t1 t2 (by simp only[List.length_append,leB_length];omega),obs]
  simp only
  rw[t3,appL_one 24 _ _ (by rw[List.length_take];unfold maxRow;omega),obs]
  refine .inr ⟨hn,_,rfl,?_⟩
  rw[wrap_in (by omega) (by omega),List.take_add_one,hf]
  simp only[Option.toList_some,Prod.mk.injEq,true_and]
  push_cast;omega
 ·have:i=l.length:=by omega
  subst this
  refine .inl ?_
  rw[if_neg (by omega),List.take_length,List.drop_length];rfl
theorem decI_eq (s:Str):impl_DecodePipeline s=((impl_decoder_byte_od0 (s,false)).bind (fun r1=>impl_DecodePipeline_l1 s (r1.1,[],r1.2))).bind fun r10=>if r10.2.1.2=true then some ([],false) else (impl_ValidPipeline r10.2.2).bind fun r11=>if ¬(r11=true) then some ([],false) else (impl_encodePipeline r10.2.2).bind fun r12=>if ¬(r12=r10.1) then some ([],false) else some (r10.2.2,true):=by
 unfold impl_DecodePipeline
 rw[Option.bind_assoc]
theorem decI_any (s:Str) (hs:s.length≤1048576):∃ p b,impl_DecodePipeline s=some (p,b)∧(b=true→VP p∧eP p=s):=by
 obtain⟨v,l,e,hl⟩:=decP_any s hs
 rw[decI_eq,e,obs]
 simp only
 by_cases hv:v.2=true
 ·rw[if_pos hv];exact⟨_,_,rfl,fun h=>by cases h⟩
 rw[if_neg hv]
 obtain⟨b,hb,hbv⟩:=iPip_out l
 rw[hb,obs]
 cases b with
 |false=>exact⟨_,_,by rw[if_pos (by simp)],fun h=>by cases h⟩
 |true =>
  rw[if_neg (by simp),encP_out l (by omega),obs]
  by_cases he:eP l=s
  ·rw[if_neg (not_not_intro he)];exact⟨l,true,rfl,fun _=>⟨hbv.1 rfl,he⟩⟩
  ·rw[if_pos he];exact⟨_,_,rfl,fun h=>by cases h⟩
theorem decI_text (l:List DFil) (h:VP l):impl_DecodePipeline (eP l)=some (l,true):=by
 obtain⟨b,hb,hbv⟩:=iPip_out l
 rw[decI_eq,decP_text l h,obs]
 simp only
 rw[if_neg (by simp),hb,obs,hbv.2 h,if_neg (by simp),encP_out l (by have:=h.1;omega),obs,if_neg (by simp)]
def pT (l:List DFil):Str:=if l=[] then noneT else tP l
theorem pT_le {l:List DFil} (h:VP l):(pT l).length≤128:=by
 unfold pT
 split
 ·decide
 ·exact tP_le h
theorem pipT_out (l:List DFil) (h:VP l):impl_PipelineText l=some (pT l):=by
 unfold impl_PipelineText pT
 obtain⟨b,hb,hv⟩:=iPip_out l
 rw[hb,obs,hv.2 h,if_neg (not_not_intro rfl)]
 by_cases h0:l=[]
 ·subst h0;unfold impl_pipelineText;rw[if_pos (by simp),if_pos rfl];rfl
 ·rw[iPText_out l h h0,obs,if_neg h0]
theorem tP_none {l:List DFil} (h:VP l) (hne:l≠[]):tP l≠noneT:=by
 obtain⟨f,r,rfl⟩:=List.exists_cons_of_ne_nil hne
 intro e
 obtain⟨k1,_⟩:=(h.2 f List.mem_cons_self).k
 have e0:(tP (f::r))[0]?=(wd f.1)[0]?:=by
  unfold tP
  rw[List.map_cons,Lib.join_cons]
  unfold tF
  have:=(wd_at k1).2.2.1
  rw[List.append_assoc,List.append_assoc,List.getElem?_append_left (by omega)]
 rw[e] at e0
 rcases k1 with k |k |k |k |k <;> rw[k] at e0 <;> exact absurd e0 (by decide)
theorem rdI_text (l:List DFil) (h:VP l):impl_ReadPipeline (pT l)=some (l,true):=by
 unfold pT impl_ReadPipeline
 by_cases h0:l=[]
 ·subst h0;rw[if_pos rfl,if_pos (show noneT=[110,111,110,101] from rfl)]
 ·rw[if_neg h0,if_neg (show ¬tP l=[110,111,110,101] from tP_none h h0)]
  have hl:=tP_le h
  obtain⟨f,r,rfl⟩:=List.exists_cons_of_ne_nil h0
  have et:tP (f::r)=tF f++rstF (f::r) 1:=by unfold tP rstF;rw[List.map_cons,Lib.join_cons];rfl
  rw[et] at hl
  have e1:=filter_text (h.2 f List.mem_cons_self) _ false (rstF_aft _ _) (show (tF f++rstF (f::r) 1).length≤1048576 by omega)
  rw[et,e1,obs]
  simp only
  have hlit:(lit [(f.1,f.2.1,f.2.2)]:List DFil)=[f]:=rfl
  rw[hlit,rdIL_text _ (f::r) f r rfl h (by rw[List.length_append] at hl;omega),obs]
  obtain⟨b,hb,hv⟩:=iPip_out (f::r)
  simp only
  rw[if_neg (by simp),hb,obs,hv.2 h,if_neg (by simp),iPText_out _ h h0,obs,if_neg (by rw[et];simp)]
theorem rdI_any (s:Str) (hs:s.length≤1048576):∃ q b,impl_ReadPipeline s=some (q,b)∧(b=true→impl_PipelineText q=some s):=by
 by_cases hn:s=noneT
 ·refine⟨[],true,by unfold impl_ReadPipeline;rw[if_pos (show s=[110,111,110,101] from hn)],fun _=>?_⟩
  rw[pipT_out [] ⟨by simp,by simp⟩,hn];rfl
 ·rcases rdPI_out s hs hn with ⟨l,hl,hne,ht,e⟩ |⟨_,e⟩
  ·exact⟨l,true,e,fun _=>by rw[pipT_out l hl];unfold pT;rw[if_neg hne,ht]⟩
  ·exact⟨[],false,e,fun h=>by cases h⟩
theorem sameP_out (l:List DFil) (h:l.length≤1000):impl_SamePipeline l l=some true:=by
 have he:∀ x:DFil,(decide (x.1=x.1)&&(decide (x.2.1=x.2.1)&&(x.2.2 == x.2.2)))=true:=fun x=>by simp
 unfold impl_SamePipeline slices_Equal_impl_Filter_impl_Filter_ slices_Equal_impl_Filter_impl_Filter__l1
 rw[if_neg (by simp),loop_eq l l rfl (fun s=>slices_Equal_impl_Filter_impl_Filter__l1_b l l (l.length:Int) s) (.inl ()) (.inr false) (fun i x hi hx hx2=>by
  unfold slices_Equal_impl_Filter_impl_Filter__l1_b
  rw[if_pos (by omega),if_pos (by omega),Int.toNat_natCast,hx,obs,if_pos (by omega),obs,he,if_neg (by simp),w1 (by omega)]) (fun i x y hi hx hy hxy=>by
  rw[hx] at hy;cases hy;exact absurd rfl hxy) (by simp[slices_Equal_impl_Filter_impl_Filter__l1_b])]
 simp
theorem drF_out (c:List Bt) (a s:Int) (h0:0≤a) (h1:a≤900000):∃ a' s' f,spec_l18Draw_o9d c a s=some (c,a',s',f)∧(a≤a'∧a'≤a+4)∧okF f:=by
 unfold spec_l18Draw_o9d
 obtain⟨a1,s1,v,e1,l1,v0,v1⟩:=pick_out c a s 5 h0 (by omega)
 rw[e1,obs]
 simp only
 rw[wrap_in (n:=1+v) (by omega) (by omega)]
 have hp1:∀ (x:DFil),∃ a' s' b,spec_l18Draw_o9d_p1 c a1 s1 (0,0,false) x true=some (c,a',s',(0,0,false),(x.1,x.2.1,b))∧(a≤a'∧a'≤a+4):=fun x=>by
  obtain⟨a2,s2,b,e2,l2⟩:=one_out c a1 s1 2 (by omega) (by omega)
  unfold spec_l18Draw_o9d_p1
  rw[if_pos rfl,e2];exact⟨a2,s2,b,rfl,by omega⟩
 by_cases k1:1+v=1
 ·rw[if_pos k1]
  obtain⟨a2,s2,x,e2,l2,hx⟩:=among_out c a1 s1 (lit [1,2,3,4,8,24]) (by unfold lit;simp) (by omega) (by omega)
  rw[e2,obs]
  simp only[if_true]
  unfold lit at hx
  simp only[List.mem_cons,List.not_mem_nil,or_false] at hx
  exact⟨a2,s2,_,rfl,by omega,by rw[k1,okF_1];exact⟨by omega,rfl⟩⟩
 rw[if_neg k1]
 by_cases k2:1+v=2
 ·rw[if_pos k2]
  obtain⟨a2,s2,x,e2,l2,hx⟩:=among_out c a1 s1 (lit [1,2,4]) (by unfold lit;simp) (by omega) (by omega)
  rw[e2,obs]
  simp only[if_true]
  unfold lit at hx
  simp only[List.mem_cons,List.not_mem_nil,or_false] at hx
  exact⟨a2,s2,_,rfl,by omega,by rw[k2,okF_2];exact⟨hx,rfl⟩⟩
 rw[if_neg k2]
 by_cases k3:1+v=3
 ·rw[if_pos k3,decide_eq_true k3]
  obtain⟨a2,s2,b,e2,l2⟩:=hp1 (1+v,0,false)
  rw[e2,obs]
  exact⟨a2,s2,_,rfl,l2,by simp only;rw[k3,okF_3]⟩
 rw[if_neg k3]
 by_cases k4:1+v=4
 ·rw[decide_eq_true k4]
  obtain⟨a2,s2,b,e2,l2⟩:=hp1 (1+v,0,false)
  rw[e2,obs]
  exact⟨a2,s2,_,rfl,l2,by simp only;rw[k4,okF_4]⟩
 ·rw[decide_eq_false k4]
  unfold spec_l18Draw_o9d_p1
  rw[if_neg (by simp),obs]
  exact⟨a1,s1,_,rfl,by omega,by simp only;rw[show 1+v=5 by omega,okF_5];exact⟨rfl,rfl⟩⟩
theorem drP_out (c:List Bt) (a s:Int) (h0:0≤a) (h1:a≤800000):∃ a' s' l,spec_l19Draw_o9d c a s=some (c,a',s',l)∧(a≤a'∧a'≤a+30)∧VP l:=by
 unfold spec_l19Draw_o9d spec_l19Draw_o9d_l1
 obtain⟨a1,s1,v,e1,l1,v0,v1⟩:=pick_out c a s 5 h0 (by omega)
 rw[e1,obs]
 simp only
 have key:=loop_ex (f:=fun t:List Bt×Int×Int×List DFil×Int=>spec_l19Draw_o9d_l1_b t.1 t.2.1 t.2.2.1 t.2.2.2.1 t.2.2.2.2) (fun q=>∃ a' s' l,q=(c,a',s',l)∧(a≤a'∧a'≤a+30)∧VP l) v.toNat
  (fun i t=>∃ a' s' l,t=(c,a',s',l,v-i)∧(a≤a'∧a'≤a+2+4*i)∧l.length=i∧∀ f∈l,okF f) (fun i t hi ht=>?_) v.toNat 0 (c,a1,s1,[],v) (by omega) ⟨a1,s1,[],by simp,by omega,rfl,by simp⟩
 ·obtain⟨q,hq,a2,s2,l,rfl,h2,h3⟩:=key
  rw[hq,obs];exact⟨a2,s2,l,rfl,h2,h3⟩
 ·obtain⟨a2,s2,l,rfl,h2,hl,hf⟩:=ht
  unfold spec_l19Draw_o9d_l1_b
  simp only
  by_cases hn:i<v.toNat
  ·obtain⟨a3,s3,f,e3,h3,hok⟩:=drF_out c a2 s2 (by omega) (by omega)
   rw[if_pos (by omega),e3,obs]
   simp only
   rw[appL_one 24 _ _ (by unfold maxRow;omega),obs]
   refine .inr ⟨hn,_,rfl,a3,s3,l++[f],?_,by omega,by simp[hl],fun g hg=>?_⟩
   ·rw[wrap_in (by omega) (by omega)];simp only[Prod.mk.injEq,true_and];push_cast;omega
   ·rcases List.mem_append.1 hg with hg |hg
    ·exact hf g hg
    ·rw[List.mem_singleton] at hg;subst hg;exact hok
  ·rw[if_neg (by omega)]
   exact .inl ⟨_,rfl,a2,s2,l,rfl,by omega,by omega,hf⟩
theorem encS_out (l:List DFil) (h:VP l):spec_EncodePipeline l=some (eP l):=by
 have hl4:=h.1
 unfold spec_EncodePipeline spec_EncodePipeline_l1
 obtain⟨b,hb,hv⟩:=sPip_out l (by omega)
 rw[hb,obs,hv.2 h,if_neg (not_not_intro rfl),putU1 _ (by omega) (by omega),obs,loop_some (r:=eP l) l.length (fun i t=>t=(leB l.length 1++((l.take i).map eF).flatten,(i:Int))) (fun i t hi ht=>?_) l.length 0 (leB l.length 1,0) (by omega) (by simp),obs]
 subst ht
 unfold spec_EncodePipeline_l1_b
 simp only
 by_cases hn:i<l.length
 ·obtain⟨x,hx⟩:=get_at hn
  obtain⟨k1,k2,k3,k4⟩:=(h.2 x (List.mem_of_getElem? hx)).k
  have hl:=eFs_len (l.take i)
  rw[List.length_take] at hl
  have hfl:spec_l19Flag x.2.2=some (tr x.2.2):=by unfold spec_l19Flag tr;cases x.2.2 <;> rfl
  obtain⟨t1,t2,t3⟩:=tr_in x.2.2
  rw[if_pos (by omega),if_pos (by omega),Int.toNat_natCast,hx,obs,putU1 _ (by omega) (by omega),obs,putU1 _ (by omega) (by omega),obs,if_pos (by simp),hfl,obs,putU1 _ t1 t2,obs,if_pos (by simp),if_pos (by simp only[List.length_append,leB_length,hl];omega),w1 (by omega)]
  refine .inr ⟨hn,_,rfl,?_⟩
  rw[List.take_add_one,hx]
  simp only[Option.toList_some,List.map_append,List.map_cons,List.map_nil,List.flatten_append,List.flatten_cons,List.flatten_nil,List.append_nil,List.append_assoc]
  rfl
 ·have:i=l.length:=by omega
  subst this
  rw[if_neg (by omega),List.take_length];exact .inl rfl
theorem textS_out (c:List Bt) (a s:Int) (l:List Str) (hl:0<l.length) (h0:0≤a) (h1:a≤999999):∃ a' s' x,spec_l00Src_text_o62 c a s l=some (c,a',s',l,x)∧(a≤a'∧a'≤a+2)∧x∈l:=by
 obtain⟨a',s',v,e,h2,h3,h4⟩:=pick_out c a s l.length h0 h1
 obtain⟨x,hx⟩:=get_at (l:=l) (i:=v.toNat) (by omega)
 refine⟨a',s',x,?_,h2,List.mem_of_getElem? hx⟩
 unfold spec_l00Src_text_o62
 rw[e,obs]
 simp only
 rw[if_pos (by omega),hx];rfl
theorem spoilt_out (c:List Bt) (a s:Int) (t:Str) (ht:t.length≤1000000) (h0:0≤a) (h1:a≤900000):∃ a' s' u,spec_l18Spoilt_o46 c a s t=some (c,a',s',u)∧u.length≤t.length+1:=by
 unfold spec_l18Spoilt_o46 bytL
 rw[if_pos (by unfold maxRow;omega),obs]
 obtain⟨a1,s1,v,e1,l1,v0,v1⟩:=pick_out c a s 6 h0 (by omega)
 rw[e1,obs]
 simp only[List.length_map]
 by_cases k0:v=0
 ·rw[if_pos k0]
  by_cases hl:((t.length:Nat):Int)>0
  ·rw[if_pos hl]
   obtain⟨a2,s2,k,e2,l2,u0,u1⟩:=pick_out c a1 s1 (t.length:Int) (by omega) (by omega)
   rw[e2,obs]
   simp only
   obtain⟨s3,x,e3,x0,x1⟩:=next_out c a2 s2 (by omega) (by omega)
   rw[e3,obs,if_pos (by omega)]
   obtain⟨y,hy⟩:=get_at (l:=t.map Bt.mk) (i:=k.toNat) (by rw[List.length_map];omega)
   rw[hy,obs]
   exact⟨_,_,_,rfl,by simp⟩
  ·rw[if_neg hl];exact⟨_,_,_,rfl,by simp⟩
 rw[if_neg k0]
 by_cases k1:v=1
 ·rw[if_pos k1]
  obtain⟨s3,x,e3,x0,x1⟩:=next_out c a1 s1 (by omega) (by omega)
  rw[e3,obs,appL_one 1 _ _ (by rw[List.length_map];unfold maxRow;omega),obs]
  exact⟨_,_,_,rfl,by simp⟩
 rw[if_neg k1]
 by_cases k2:v=2
 ·rw[if_pos k2]
  by_cases hl:((t.length:Nat):Int)>0
  ·rw[if_pos hl]
   obtain⟨a2,s2,k,e2,l2,u0,u1⟩:=pick_out c a1 s1 (t.length:Int) (by omega) (by omega)
   rw[e2,obs]
   simp only
   rw[show k=((k.toNat:Nat):Int) by omega,subL_to _ _ (by rw[List.length_map];omega),obs]
   exact⟨_,_,_,rfl,by simp;omega⟩
  ·rw[if_neg hl];exact⟨_,_,_,rfl,by simp⟩
 ·rw[if_neg k2];exact⟨_,_,_,rfl,by simp⟩
theorem drawD_out (c:List Bt):∃ t,spec_DrawDecodePipeline c=some t∧t.length≤1048576:=by
 unfold spec_DrawDecodePipeline spec_l00From
 obtain⟨a1,s1,l,e1,h1,hl⟩:=drP_out c 0 0 (by omega) (by omega)
 have he:=eP_len l
 have:=hl.1
 simp only[obs,e1,encS_out l hl]
 obtain⟨a2,s2,u,e2,hu⟩:=spoilt_out c a1 s1 (eP l) (by omega) (by omega) (by omega)
 rw[e2];exact⟨u,rfl,by omega⟩
theorem drawR_out (c:List Bt):∃ t,spec_DrawReadPipeline c=some t∧t.length≤1048576:=by
 unfold spec_DrawReadPipeline spec_l00From
 obtain⟨a1,s1,l,e1,h1,hl⟩:=drP_out c 0 0 (by omega) (by omega)
 have hp:spec_PipelineText l=some (pT l):=by
  rcases sPText_out l (by have:=hl.1;omega) with ⟨_,e⟩ |⟨hn,_⟩
  ·exact e
  ·exact absurd hl hn
 have ht:=pT_le hl
 obtain⟨a4,s4,v,e4,h4,v0,v1⟩:=pick_out c a1 s1 6 (by omega) (by omega)
 simp only[obs,e1,hp,e4]
 by_cases hv0:v=0
 ·rw[if_pos hv0]
  obtain⟨a5,s5,u,e5,h5,u0,u1⟩:=pick_out c a4 s4 ((pT l).length:Int) (by omega) (by omega)
  obtain⟨p,q,ep,eq,hp,hq⟩:=subL_split (pT l) u u0 (by omega)
  obtain⟨a6,s6,w,e6,h6,hw⟩:=textS_out c a5 s5 (lit [[63],[43],[40],[41],[49],[32],[108,122]]) (by unfold lit;simp) (by omega) (by omega)
  have hwl:w.length≤2:=by
   unfold lit at hw
   simp only[List.mem_cons,List.not_mem_nil,or_false] at hw
   rcases hw with rfl |rfl |rfl |rfl |rfl |rfl |rfl <;> simp
  simp only[e5,obs,ep,eq,and_self,if_true,e6]
  rw[if_pos (by omega),if_pos (by rw[List.length_append];omega)]
  exact⟨_,rfl,by simp only[List.length_append];omega⟩
 ·rw[if_neg hv0]
  by_cases hv1:v=1
  ·rw[if_pos hv1]
   obtain⟨a6,s6,w,e6,h6,hw⟩:=textS_out c a4 s4 (lit [[],[110,111,110,101],[110,111,110,101,43,108,122],[115,104,117,102,102,108,101],[115,104,117,102,102,108,101,40,48,41],[100,101,108,116,97,40,51,41],[115,117,109,63],[114,117,110,43,114,117,110,43,114,117,110,43,114,117,110,43,114,117,110],[108,122,40,49,41],[115,104,117,102,102,108,101,40,48,52,41],[76,122]]) (by unfold lit;simp) (by omega) (by omega)
   have hwl:w.length≤100:=by
    unfold lit at hw
    simp only[List.mem_cons,List.not_mem_nil,or_false] at hw
    rcases hw with rfl |rfl |rfl |rfl |rfl |rfl |rfl |rfl |rfl |rfl |rfl <;> simp
   simp only[e6,obs,if_true]
   exact⟨_,rfl,by omega⟩
  ·rw[if_neg hv1];exact⟨_,rfl,by omega⟩
theorem FnPipelineText_true (c m:List Bt) (h:Gd.ok c) (h':Gd.ok m):laws_FnPipelineText c m=some true:=by
 unfold laws_FnPipelineText
 by_cases h1:(c.length:Int)>1048576
 ·rw[if_pos h1]
 rw[if_neg h1]
 by_cases h2:(m.length:Int)>1048576
 ·rw[if_pos h2]
 rw[if_neg h2]
 obtain⟨a1,s1,l,e1,_,hl⟩:=drP_out c 0 0 (by omega) (by omega)
 have e8:spec_E8Pipeline c=some l:=by
  unfold spec_E8Pipeline spec_l00From
  simp only[obs,e1]
 have hl4:=hl.1
 obtain⟨b,hb,hv⟩:=iPip_out l
 rw[e8,obs,encodeI_out l hl,obs,decI_text l hl,obs,pipT_out l hl,obs,rdI_text l hl,obs]
 simp only[not_true_eq_false,if_false]
 rw[sameP_out l (by omega),obs,if_neg (by simp),obs,if_neg (by simp),hb,obs,hv.2 hl,if_neg (by simp)]
 obtain⟨d,e2,hd⟩:=drawD_out m
 obtain⟨p,b3,e3,hp⟩:=decI_any d hd
 obtain⟨t,e4,ht⟩:=drawR_out m
 obtain⟨q,b4,e5,hq⟩:=rdI_any t ht
 rw[e2,obs,e3,obs,e4,obs,e5,obs]
 simp only
 have tail:(if ¬b4=true then some true else (impl_PipelineText q).bind fun r13=>some (decide (r13=t)))=some true:=by
  cases b4 with
  |false=>simp
  |true=>rw[if_neg (by simp),hq rfl,obs];simp
 cases b3 with
 |false=>rw[if_pos (by simp)];exact tail
 |true =>
  obtain⟨hV,hE⟩:=hp rfl
  rw[if_neg (by simp),encodeI_out p hV,obs,if_pos hE]
  exact tail
end Go.Proofs.TM
