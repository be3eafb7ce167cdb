import Derived.Test.YtfbolaoobodmoaaGreatSB
import Derived.Test.YtfbolaoobodmoaaGreatSA
namespace Go.Proofs.TM
open Go Go.Proofs
set_option maxHeartbeats 1000000
def Pw (d:DDisk):Prop:=d.2.2.1=-1∧d.2.2.2=false
theorem Pw.np {d:DDisk} (h:Pw d):¬NoPow d:=fun hn=>by
 rcases hn with q |q
 ·rw[h.2] at q;cases q
 ·rw[h.1] at q;cases q
theorem decF_neg:decF (-1)=-1:=by decide
theorem pw_bar {d:DDisk} (h:Pw d):(barD d).2=0∧Pw (barD d).1:=by
 unfold barD;rw[if_neg h.np];exact⟨rfl,by simp only[h.1,decF_neg],h.2⟩
theorem pw_wr {d:DDisk} (h:Pw d) (k:Int) (b:Str):(wrD d k b).2=0∧Pw (wrD d k b).1:=by
 unfold wrD;rw[if_neg h.np];exact⟨rfl,by simp only[h.1,decF_neg],h.2⟩
theorem pw_wrL:∀ (l:List (Int×Str)) (d:DDisk),Pw d→(wrL d l).2=0∧Pw (wrL d l).1
 |[],d,h=>⟨rfl,h⟩
 |x::l,d,h=>by
  have h1:=pw_wr h x.1 x.2
  simp only[wrL]
  rw[andD_z h1.1]
  exact pw_wrL l _ h1.2
theorem pw_clr:∀ (n:Nat) (k:Int) (d:DDisk),Pw d→(clrD d n k).2=0∧Pw (clrD d n k).1
 |0,k,d,h=>⟨rfl,h⟩
 |n+1,k,d,h=>by
  simp only[clrD]
  by_cases hz:rdD d k=zB
  ·rw[if_pos hz];exact pw_clr n (k+1) d h
  ·rw[if_neg hz]
   have h1:=pw_wr h k zB
   rw[andD_z h1.1]
   exact pw_clr n (k+1) _ h1.2
theorem pw_ck {d:DDisk} (h:Pw d) (l:List (Int×Str)) (s:DSuper) (n:Nat):(ckD d l s n).2=0∧Pw (ckD d l s n).1:=by
 unfold ckD
 have h1:=pw_bar h
 rw[andD_z h1.1]
 have h2:=pw_wrL l _ h1.2
 rw[andD_z h2.1]
 have h3:=pw_bar h2.2
 rw[andD_z h3.1]
 have h4:=pw_wr h3.2 (Int.tmod s.2.2.2 2) (encS s)
 rw[andD_z h4.1]
 have h5:=pw_bar h4.2
 rw[andD_z h5.1]
 have h6:=pw_clr n 2 _ h5.2
 rw[andD_z h6.1]
 exact pw_bar h6.2
def Live (p:DPager):Prop:=PagerV p∧Pw p.1
theorem check_live {p:DPager} (h:Live p):spec_l12Check_o19 p=some (p,5)∨∃ p',spec_l12Check_o19 p=some (p',0)∧Live p'∧p'.2.2.2.1=0∧p'.2.2.2.2.2=p.2.2.2.2.2∧p'.2.1.2.1=p.2.1.2.1∧p'.2.2.1=p.2.2.1:=by
 obtain⟨d,q⟩:=p
 obtain⟨hp,hw⟩:=h
 by_cases ht:q.1.2.2.2=1000000000000
 ·left
  unfold spec_l12Check_o19
  rw[if_pos (by simp only;omega)]
 right
 obtain⟨hi,hl,hs,hN,hlt,h16⟩:=pv_inv hp ht
 have hc:=pw_ck hw q.2.2.2.1 (nxS q) q.1.2.1.toNat
 have hz:(ckR d q).2=0:=hc.1
 obtain⟨_,hd⟩:=rdD_ck hp ht hz (2+q.1.2.1) (by omega) (by have:=hp.2.2.1;have h2:q.1.1=(d.1.length:Int):=hp.2.2.2.1;have:=this.2.2.2.2.1;simp only at this;omega)
 refine⟨((ckR d q).1,nxS q,q.2.1,0,[],q.2.2.2.2),?_,⟨?_,hc.2⟩,rfl,rfl,rfl,rfl⟩
 ·rw[sCheck hp ht];unfold endK;rw[if_pos hz]
 ·obtain⟨a1,a2,a3,a4,a5,a6,a7,a8,a9,a10,a11⟩:=hp
  refine⟨hd.1,fun hh=>?_,hs,?_,?_,?_,?_,a8,?_,a10,a11⟩
  ·have:=hd.2.2;simp only at hh;omega
  ·show q.1.1=_;rw[hd.2.1];exact a4
  ·exact⟨Int.le_refl _,a5.2⟩
  ·simp only;exact⟨by omega,by show (0:Int)≤q.1.2.1;omega⟩
  ·exact⟨by simp,fun i hi=>by simp at hi⟩
  ·intro x hx;simp at hx
theorem mem_mrg:∀ (n:Nat) (a b:List (Int×Str)),a.length+b.length=n→∀ x∈mrg a b,x∈a∨x∈b:=by
 intro n
 induction n using Nat.strongRecOn with
 |_ n ih =>
  intro a b hn x hx
  cases a with
  |nil=>rw[nil_mrg] at hx;exact .inr hx
  |cons y a =>
   cases b with
   |nil=>rw[mrg_nil] at hx;exact .inl hx
   |cons z b =>
    rw[mrg_cons] at hx
    simp only[List.length_cons] at hn
    by_cases h1:y.1<z.1
    ·rw[if_pos h1] at hx
     rcases List.mem_cons.1 hx with rfl |hx
     ·exact .inl (by simp)
     ·rcases ih (a.length+(z::b).length) (by simp;omega) a (z::b) rfl x hx with h |h
      ·exact .inl (by simp[h])
      ·exact .inr h
    ·rw[if_neg h1] at hx
     by_cases h2:y.1=z.1
     ·rw[if_pos h2] at hx
      rcases List.mem_cons.1 hx with rfl |hx
      ·exact .inr (by simp)
      ·rcases ih (a.length+b.length) (by omega) a b rfl x hx with h |h
       ·exact .inl (by simp[h])
       ·exact .inr (by simp[h])
     ·rw[if_neg h2] at hx
      rcases List.mem_cons.1 hx with rfl |hx
      ·exact .inr (by simp)
      ·rcases ih ((y::a).length+b.length) (by simp;omega) (y::a) b rfl x hx with h |h
       ·exact .inl h
       ·exact .inr (by simp[h])
theorem mrg_rise:∀ (n:Nat) (a b:List (Int×Str)),a.length+b.length=n→a.Pairwise (fun x y=>x.1<y.1)→b.Pairwise (fun x y=>x.1<y.1)→(mrg a b).Pairwise (fun x y=>x.1<y.1):=by
 intro n
 induction n using Nat.strongRecOn with
 |_ n ih =>
  intro a b hn ha hb
  cases a with
  |nil=>rw[nil_mrg];exact hb
  |cons y a =>
   cases b with
   |nil=>rw[mrg_nil];exact ha
   |cons z b =>
    rw[mrg_cons]
    simp only[List.length_cons] at hn
    obtain⟨ha1,ha2⟩:=List.pairwise_cons.1 ha
    obtain⟨hb1,hb2⟩:=List.pairwise_cons.1 hb
    by_cases h1:y.1<z.1
    ·rw[if_pos h1,List.pairwise_cons]
     refine⟨fun x hx=>?_,ih (a.length+(z::b).length) (by simp;omega) a (z::b) rfl ha2 hb⟩
     rcases mem_mrg _ a (z::b) rfl x hx with h |h
     ·exact ha1 x h
     ·rcases List.mem_cons.1 h with rfl |h
      ·exact h1
      ·have:=hb1 x h;omega
    ·rw[if_neg h1]
     by_cases h2:y.1=z.1
     ·rw[if_pos h2,List.pairwise_cons]
      refine⟨fun x hx=>?_,ih (a.length+b.length) (by omega) a b rfl ha2 hb2⟩
      rcases mem_mrg _ a b rfl x hx with h |h
      ·have:=ha1 x h;omega
      ·exact hb1 x h
     ·rw[if_neg h2,List.pairwise_cons]
      refine⟨fun x hx=>?_,ih ((y::a).length+b.length) (by simp;omega) (y::a) b rfl ha hb2⟩
      rcases mem_mrg _ (y::a) b rfl x hx with h |h
      ·rcases List.mem_cons.1 h with rfl |h
       ·omega
       ·have:=ha1 x h;omega
      ·exact hb1 x h
theorem rise_len:∀ (l:List (Int×Str)) (lo:Int),l.Pairwise (fun x y=>x.1<y.1)→(∀ x∈l,lo≤x.1∧x.1≤255)→lo≤256→(l.length:Int)≤256-lo
 |[],lo,_,_,h=>by simp;omega
 |x::l,lo,hp,hb,h=>by
  obtain⟨h1,h2⟩:=List.pairwise_cons.1 hp
  have hx:=hb x (by simp)
  have:=rise_len l (x.1+1) h2 (fun y hy=>⟨by have:=h1 y hy;omega,(hb y (by simp[hy])).2⟩) (by omega)
  simp only[List.length_cons]
  omega
theorem mrg_pagesV {a b:List (Int×Str)} (ha:PagesV a) (hb:PagesV b):PagesV (mrg a b):=by
 obtain⟨a1,a2,a3⟩:=(pagesV_iff a).1 ha
 obtain⟨b1,b2,b3⟩:=(pagesV_iff b).1 hb
 have hr:=mrg_rise _ a b rfl a3 b3
 have hm:∀ x∈mrg a b,0≤x.1∧x.1≤255∧x.2.length=64:=fun x hx=>by
  rcases mem_mrg _ a b rfl x hx with h |h
  ·exact a2 x h
  ·exact b2 x h
 refine (pagesV_iff _).2 ⟨?_,hm,hr⟩
 have:=rise_len (mrg a b) 0 hr (fun x hx=>⟨(hm x hx).1,(hm x hx).2.1⟩) (by omega)
 omega
theorem mrg_within {s:DSuper} {a b:List (Int×Str)} (ha:WithinV s a) (hb:WithinV s b):WithinV s (mrg a b):=fun x hx=>by
 rcases mem_mrg _ a b rfl x hx with h |h
 ·exact ha x h
 ·exact hb x h
theorem crc_in (s:Str) (i c:Int):∃ r,spec_Crc32_l2 s i (c,0)=some r∧r.1=s∧r.2.2=i:=by
 unfold spec_Crc32_l2
 refine loop_ex (f:=fun st:Int×Int=>spec_Crc32_l2_b s i st.1 st.2) (fun r=>r.1=s∧r.2.2=i) 8 (fun k st=>st.2=(k:Int)) (fun k st hk hs=>?_) 8 0 _ rfl rfl
 simp only[spec_Crc32_l2_b,hs]
 by_cases h:(k:Int)<8
 ·rw[if_pos h]
  right
  refine⟨by omega,?_⟩
  split
  ·exact⟨_,rfl,w1 (by omega)⟩
  ·exact⟨_,rfl,w1 (by omega)⟩
 ·rw[if_neg h]
  exact .inl ⟨_,rfl,rfl,rfl⟩
theorem wrap_bd (x:Int):-9223372036854775808≤IntKind.i64.wrap x∧IntKind.i64.wrap x≤9223372036854775807:=by
 rw[IntKind.wrap_i64];omega
theorem Crc32_out (s:Str) (h:s.length≤1048576):∃ c,spec_Crc32 s=some c∧-9223372036854775808≤c∧c≤9223372036854775807:=by
 unfold spec_Crc32 spec_Crc32_l1
 obtain⟨r,hr,_⟩:=loop_ex (f:=fun st:Str×Int×Int=>spec_Crc32_l1_b st.1 st.2.1 st.2.2) (fun _=>True) s.length (fun k st=>st.1=s∧st.2.2=(k:Int)) (fun k st hk hs=>by
  obtain⟨h1,h2⟩:=hs
  simp only[spec_Crc32_l1_b,h1,h2]
  by_cases hlt:k<s.length
  ·obtain⟨x,hx⟩:=get_at hlt
   obtain⟨r,hr,q1,q2⟩:=crc_in s k (bitV .xor .u32 st.2.1 (IntKind.u32.wrap (x.toNat:Int)))
   rw[if_pos (by omega),if_pos (by omega),Int.toNat_natCast,hx,obs,hr,obs,q1,q2]
   exact .inr ⟨hlt,_,rfl,rfl,w1 (by omega)⟩
  ·rw[if_neg (by omega)]
   exact .inl ⟨_,rfl,trivial⟩) s.length 0 (s,4294967295,0) (by omega) ⟨rfl,rfl⟩
 rw[hr,obs]
 exact⟨_,rfl,(wrap_bd _).1,(wrap_bd _).2⟩
theorem appB (l m:List Bt) (h:l.length+m.length≤1048576):appL 1 l m=some (l++m):=by unfold appL;rw[if_pos (by simp[maxRow];omega)]
theorem appS (l m:List Str) (h:l.length+m.length≤1048576):appL 16 l m=some (l++m):=by unfold appL;rw[if_pos (by simp[maxRow];omega)]
theorem l11Head_out (seq pages:Int) (rest:List Str) (hr:rest.length≤1000) (h64:∀ x∈rest,x.length=64) (s0:-9223372036854775808≤seq) (s1:seq≤9223372036854775807) (p0:-9223372036854775808≤pages) (p1:pages≤9223372036854775807) :
  ∃ b,spec_l11Head seq pages rest=some b∧b.length=64:=by
 unfold spec_l11Head spec_l11Head_l1
 obtain⟨r,hr',q1,q2,q3⟩:=loop_ex (f:=fun st:List Bt×Int=>spec_l11Head_l1_b seq pages rest st.1 st.2) (fun r=>r.1=seq∧r.2.1=pages∧r.2.2.length≤64000) rest.length (fun k st=>st.2=(k:Int)∧st.1.length=64*k) (fun k st hk hs=>by
  obtain⟨h1,h2⟩:=hs
  simp only[spec_l11Head_l1_b,h1]
  by_cases hlt:k<rest.length
  ·obtain⟨x,hx⟩:=get_at hlt
   have hx64:=h64 x (List.mem_of_getElem? hx)
   rw[if_pos (by omega),if_pos (by omega),Int.toNat_natCast,hx,obs,appB _ _ (by simp;omega),obs]
   exact .inr ⟨hlt,_,rfl,w1 (by omega),by simp;omega⟩
  ·rw[if_neg (by omega)]
   exact .inl ⟨_,rfl,rfl,rfl,by simp only;omega⟩) rest.length 0 ([],0) (by omega) ⟨rfl,rfl⟩
 rw[hr',obs,q1,q2]
 have k1:spec_l01Bytes seq 8=some (leB seq 8):=l01Bytes_out seq 8 (by omega) s0 s1
 have k2:spec_l01Bytes pages 2=some (leB pages 2):=l01Bytes_out pages 2 (by omega) p0 p1
 obtain⟨c,hc,c0,c1⟩:=Crc32_out (r.2.2.map Bt.v) (by simp;omega)
 have k3:spec_l01Bytes c 4=some (leB c 4):=l01Bytes_out c 4 (by omega) c0 c1
 rw[k1,obs,if_pos (by simp),k2,obs,if_pos (by simp),hc,obs,k3,obs,if_pos (by simp)]
 have k4:=l01Pad_out ([76,79,71,82]++leB seq 8++leB pages 2++leB c 4) 63 (by simp) (by omega)
 rw[show ((63:Nat):Int)=63 from rfl] at k4
 rw[k4,obs,if_pos (by simp)]
 exact⟨_,rfl,by simp⟩
theorem l11Table_out (n:Nat) (h:n≤60):spec_l11Table n=some (((2*n+63) / 64:Nat):Int):=by
 unfold spec_l11Table
 rw[wrap_in (n:=2*(n:Int)) (by omega) (by omega),wrap_in (n:=2*(n:Int)+64) (by omega) (by omega),wrap_in (n:=2*(n:Int)+64-1) (by omega) (by omega),Int.tdiv_eq_ediv_of_nonneg (by omega),wrap_in (by omega) (by omega)]
 congr 1;omega
theorem l11Blocks_out (n:Nat) (h:n≤60):spec_l11Blocks n=some (1+(((2*n+63) / 64:Nat):Int)+n):=by
 unfold spec_l11Blocks
 rw[l11Table_out n h,obs,wrap_in (n:=1+(((2*n+63) / 64:Nat):Int)) (by omega) (by omega),wrap_in (by omega) (by omega)]
theorem l11Rest_out (seq:Int) (l:List (Int×Str)) (hn:l.length≤60) (hv:∀ x∈l,0≤x.1∧x.1≤255∧x.2.length=64) :
  ∃ bs,spec_l11Rest_o25 seq l=some (l,bs)∧bs.length=(2*l.length+63) / 64+l.length∧∀ x∈bs,x.length=64:=by
 unfold spec_l11Rest_o25 spec_l11Rest_o25_l1 spec_l11Rest_o25_l2 spec_l11Rest_o25_l3
 obtain⟨r,hr,q1,q2,q3⟩:=loop_ex (f:=fun st:Str×Int=>spec_l11Rest_o25_l1_b l seq st.1 st.2) (fun r=>r.1=l∧r.2.1=seq∧r.2.2.length=2*l.length) l.length (fun k st=>st.2=(k:Int)∧st.1.length=2*k) (fun k st hk hs=>by
  obtain⟨h1,h2⟩:=hs
  simp only[spec_l11Rest_o25_l1_b,h1]
  by_cases hlt:k<l.length
  ·obtain⟨x,hx⟩:=get_at hlt
   have hxb:=hv x (List.mem_of_getElem? hx)
   have kb:spec_l01Bytes x.1 2=some (leB x.1 2):=l01Bytes_out x.1 2 (by omega) (by omega) (by omega)
   rw[if_pos (by omega),if_pos (by omega),Int.toNat_natCast,hx,obs,kb,obs,if_pos (by simp;omega)]
   exact .inr ⟨hlt,_,rfl,w1 (by omega),by simp;omega⟩
  ·have:k=l.length:=by omega
   subst this
   rw[if_neg (by omega)]
   exact .inl ⟨_,rfl,rfl,rfl,h2⟩) l.length 0 ([],0) (by omega) ⟨rfl,rfl⟩
 rw[hr,obs,q1,q2]
 rw[l11Table_out l.length hn,obs]
 generalize hT:(2*l.length+63) / 64=T
 have k4:=l01Pad_out r.2.2 (T*64) (by omega) (by omega)
 rw[show ((T*64:Nat):Int)=(T:Int)*64 by omega] at k4
 rw[wrap_in (n:=(T:Int)*64) (by omega) (by omega),k4,obs]
 have hlen:(r.2.2++List.replicate (T*64-r.2.2.length) (0:UInt8)).length=64*T:=by simp;omega
 generalize r.2.2++List.replicate (T*64-r.2.2.length) (0:UInt8)=t at hlen
 obtain⟨u,hu,u1,u2,u3,u4⟩:=loop_ex (f:=fun st:List Str×Int=>spec_l11Rest_o25_l2_b l seq t T st.1 st.2) (fun r=>r.1=l∧r.2.1=seq∧r.2.2.length=T∧∀ x∈r.2.2,x.length=64) T (fun k st=>st.2=(k:Int)∧st.1.length=k∧∀ x∈st.1,x.length=64) (fun k st hk hs=>by
  obtain⟨h1,h2,h3⟩:=hs
  simp only[spec_l11Rest_o25_l2_b,h1]
  by_cases hlt:k<T
  ·have e1:IntKind.i64.wrap ((k:Int)*64)=((64*k:Nat):Int):=by rw[wrap_in (by omega) (by omega)];omega
   have e2:IntKind.i64.wrap ((IntKind.i64.wrap ((k:Int)+1))*64)=((64*(k+1):Nat):Int):=by rw[w1 (by omega),wrap_in (by omega) (by omega)];omega
   rw[if_pos (by omega),e1,e2,subL_mid t _ _ (by omega) (by omega),obs,appS _ _ (by simp[lit];omega),obs]
   refine .inr ⟨hlt,_,rfl,w1 (by omega),by simp[lit];omega,fun x hx=>?_⟩
   rcases List.mem_append.1 hx with h |h
   ·exact h3 x h
   ·simp only[lit,List.mem_singleton] at h
    subst h
    simp;omega
  ·have:k=T:=by omega
   subst this
   rw[if_neg (by omega)]
   exact .inl ⟨_,rfl,rfl,rfl,h2,h3⟩) T 0 ([],0) (by omega) ⟨rfl,rfl,fun x hx=>by simp at hx⟩
 rw[hu,obs,u1,u2]
 obtain⟨w,hw,v1,v2,v3⟩:=loop_ex (f:=fun st:List Str×Int=>spec_l11Rest_o25_l3_b l seq st.1 st.2) (fun r=>r.1=l∧r.2.length=T+l.length∧∀ x∈r.2,x.length=64) l.length (fun k st=>st.2=(k:Int)∧st.1.length=T+k∧∀ x∈st.1,x.length=64) (fun k st hk hs=>by
  obtain⟨h1,h2,h3⟩:=hs
  simp only[spec_l11Rest_o25_l3_b,h1]
  by_cases hlt:k<l.length
  ·obtain⟨x,hx⟩:=get_at hlt
   have hxb:=hv x (List.mem_of_getElem? hx)
   rw[if_pos (by omega),if_pos (by omega),Int.toNat_natCast,hx,obs,appS _ _ (by simp[lit];omega),obs]
   refine .inr ⟨hlt,_,rfl,w1 (by omega),by simp[lit];omega,fun y hy=>?_⟩
   rcases List.mem_append.1 hy with h |h
   ·exact h3 y h
   ·simp only[lit,List.mem_singleton] at h
    subst h
    exact hxb.2.2
  ·have:k=l.length:=by omega
   subst this
   rw[if_neg (by omega)]
   exact .inl ⟨_,rfl,rfl,h2,h3⟩) l.length 0 (u.2.2,0) (by omega) ⟨rfl,by simp only;omega,u4⟩
 rw[hw,obs,v1]
 exact⟨_,rfl,v2,v3⟩
theorem l11Encode_out (seq:Int) (l:List (Int×Str)) (s0:-9223372036854775808≤seq) (s1:seq≤9223372036854775807) (h0:0<l.length) (hn:l.length≤60) (hv:∀ x∈l,0≤x.1∧x.1≤255∧x.2.length=64) :
  ∃ bs,spec_l11Encode_o25 seq l=some (l,bs)∧bs.length=1+(2*l.length+63) / 64+l.length∧∀ x∈bs,x.length=64:=by
 obtain⟨bs,e1,e2,e3⟩:=l11Rest_out seq l hn hv
 unfold spec_l11Encode_o25
 obtain⟨b,hb,hb2⟩:=l11Head_out seq ((l.length:Nat):Int) bs (by omega) e3 s0 s1 (by omega) (by omega)
 rw[e1,obs,if_pos rfl,hb,obs,if_neg (by simp only;omega),appS _ _ (by simp only[lit,List.length_singleton];omega),obs]
 refine⟨_,by rw[fixLen_eq rfl],by rw[List.length_append,e2];simp only[lit,List.length_singleton];omega,fun x hx=>?_⟩
 rcases List.mem_append.1 hx with h |h
 ·simp only[lit,List.mem_singleton] at h
  subst h;exact hb2
 ·exact e3 x h
def nums:Int→List Str→List (Int×Str)
 |_,[]=>[]
 |k,x::l=>(k,x)::nums (k+1) l
theorem nums_len:∀ (k:Int) (l:List Str),(nums k l).length=l.length
 |k,[]=>rfl
 |k,x::l=>by simp[nums,nums_len (k+1) l]
theorem nums_get:∀ (k:Int) (l:List Str) (i:Nat),(nums k l)[i]?=(l[i]?).map fun x=>(k+i,x)
 |k,[],i=>by simp[nums]
 |k,x::l,0=>by simp[nums]
 |k,x::l,i+1=>by
  simp only[nums,List.getElem?_cons_succ,nums_get (k+1) l i]
  congr 1;funext y;simp;omega
theorem nums_mem (k:Int) (l:List Str) (x:Int×Str) (hx:x∈nums k l):k≤x.1∧x.1<k+l.length∧x.2∈l:=by
 obtain⟨i,hi,he⟩:=List.mem_iff_getElem.1 hx
 have h1:=List.getElem?_eq_getElem hi
 rw[he,nums_get] at h1
 rw[nums_len] at hi
 obtain⟨y,hy⟩:=get_at hi
 rw[hy] at h1
 simp only[Option.map_some,Option.some.injEq] at h1
 subst h1
 exact⟨by simp only;omega,by simp only;omega,List.mem_of_getElem? hy⟩
theorem l12Write_out {n m:Nat} (d:DDisk) (q:PRest) (k:Int) (l:List Str) (hd:DInv n m d) (h0:0≤k) (h1:k+l.length≤n) (h64:∀ x∈l,x.length=64) (hm:m+l.length≤600) (hw:Pw d) :
  spec_l12Write_ob1 (d,q) k l=some (((wrL d (nums k l)).1,q),0)∧DInv n (m+l.length) (wrL d (nums k l)).1∧Pw (wrL d (nums k l)).1:=by
 have hn:n≤256:=by have:=hd.1.2.1;have:=hd.2.1;omega
 have hl:∀ x∈nums k l,0≤x.1∧x.1<n∧x.2.length=64:=fun x hx=>by
  obtain⟨a,b,c⟩:=nums_mem k l x hx
  exact⟨by omega,by omega,h64 _ c⟩
 have hlen:=nums_len k l
 have hp:=pw_wrL (nums k l) d hw
 have hi:=wrL_inv (nums k l) m d hd hl (by omega)
 rw[hlen] at hi
 refine⟨?_,hi.2,hp.2⟩
 unfold spec_l12Write_ob1 spec_l12Write_ob1_l1
 have hloop:=wr_loop (n:=n) (m:=m) (nums k l) hl (by omega) (fun d i=>(((d,q):DPager),(i:Int))) (fun d=>(Sum.inl (d,q):DPager ⊕ (DPager×Int))) (fun r=>Sum.inr ((r.1,q),r.2)) (fun s=>spec_l12Write_ob1_l1_b k l s.1 s.2) (fun d i x hdi hi hx=>by
  rw[hlen] at hi
  rw[nums_get] at hx
  obtain⟨y,hy⟩:=get_at hi
  rw[hy] at hx
  simp only[Option.map_some,Option.some.injEq] at hx
  subst hx
  simp only[spec_l12Write_ob1_l1_b]
  rw[if_pos (by omega),if_pos (by omega),Int.toNat_natCast,hy,obs,wrap_in (n:=k+(i:Int)) (by omega) (by omega),sWr d q _ _ hdi.1 (by have:=hdi.2.2;omega),obs]
  simp only
  by_cases hz:(wrD d (k+i) y).2=0
  ·rw[if_neg (by simpa using hz),if_pos hz,w1 (by omega)];rfl
  ·rw[if_pos hz,if_neg hz]) (fun d hdi=>by
  simp only[spec_l12Write_ob1_l1_b]
  rw[if_neg (by omega)]) l.length 0 d (by omega) (by omega) hd
 simp only[Int.natCast_zero] at hloop
 rw[hloop,obs,List.drop_zero,if_pos hp.1]
 rfl
theorem l12Log_out {p:DPager} (h:Live p) (h0:0<p.2.2.2.2.2.length) (hs:p.2.2.1<1000000000000) (hl:p.2.2.2.1+(1+(((2*p.2.2.2.2.2.length+63) / 64:Nat):Int)+p.2.2.2.2.2.length)≤p.2.1.2.1) :
  ∃ d,spec_l12Log_o19 p=some ((d,p.2),0)∧Pw d∧DInv p.1.1.length 1 d:=by
 obtain⟨d,q⟩:=p
 obtain⟨hp,hw⟩:=h
 obtain⟨a1,a2,a3,a4,a5,a6,a7,a8,a9,a10,a11⟩:=hp
 simp only at h0 hs hl a1 a2 a3 a4 a5 a6 a7 a8 a9 a10 a11 hw
 have hf:=a11.1
 obtain⟨b1,b2,b3⟩:=(pagesV_iff _).1 a8
 obtain⟨bs,e1,e2,e3⟩:=l11Encode_out (q.2.1+1) q.2.2.2.2 (by have:=a3.2.2.2.2.2.1;omega) (by omega) h0 hf b2
 have hS:=a3
 obtain⟨s1,s2,s3,s4,s5,s6,s7,s8,s9⟩:=hS
 have hseq:0≤q.2.1:=by omega
 have hpend:d.2.1.length≤600:=by have:=a1.2.2.1;omega
 have hi:DInv d.1.length 1 d:=⟨a1,rfl,by
  have:=a2
  rw[hw.2] at this
  by_cases hc:(d.2.1.length:Int)>1
  ·have:=this hc;cases this
  ·omega⟩
 unfold spec_l12Log_o19
 simp only
 rw[wrap_in (n:=q.2.1+1) (by omega) (by omega),e1,obs,if_pos rfl]
 simp only
 rw[show subL bs (some 1) none=some (bs.drop 1) from subL_from bs 1 (by omega),obs,fixLen_eq rfl,wrap_in (n:=2+q.2.2.1) (by omega) (by omega),wrap_in (n:=2+q.2.2.1+1) (by omega) (by omega)]
 obtain⟨w1',w2',w3'⟩:=l12Write_out d q (2+q.2.2.1+1) (bs.drop 1) hi (by omega) (by simp;omega) (fun x hx=>e3 x (List.mem_of_mem_drop hx)) (by simp;omega) hw
 rw[show spec_l12Write_ob1 (d,q.1,q.2.1,q.2.2.1,q.2.2.2.1,q.2.2.2.2) (2+q.2.2.1+1) (bs.drop 1)=_ from w1',obs,if_neg (by simp)]
 simp only
 generalize (wrL d (nums (2+q.2.2.1+1) (bs.drop 1))).1=d1 at w2' w3'
 have hb:=pw_bar w3'
 have hbi:DInv d.1.length 0 (barD d1).1:=by
  rcases barD_inv w2' with ⟨_,b⟩ |⟨b,_⟩
  ·exact b
  ·rw[hb.1] at b;cases b
 rw[sBar d1 q w2'.1,obs]
 simp only
 rw[if_neg (by rw[hb.1];simp),show subL bs none (some 1)=some (bs.take 1) from subL_to bs 1 (by omega),obs,wrap_in (n:=2+q.2.2.1) (by omega) (by omega)]
 have ht1:(bs.take 1).length=1:=by simp;omega
 obtain⟨v1,v2,v3⟩:=l12Write_out (barD d1).1 q (2+q.2.2.1) (bs.take 1) hbi (by omega) (by omega) (fun x hx=>e3 x (List.mem_of_mem_take hx)) (by omega) hb.2
 rw[v1,obs]
 refine⟨_,rfl,v3,?_⟩
 rw[ht1] at v2
 exact v2
theorem commit_p1_live {p:DPager} (h:Live p) (h0:0<p.2.2.2.2.2.length) (hs:p.2.2.1<1000000000000) (hl:p.2.2.2.1+(1+(((2*p.2.2.2.2.2.length+63) / 64:Nat):Int)+p.2.2.2.2.2.length)≤p.2.1.2.1) :
  ∃ p',spec_l12Commit_o19_p1 p ((p.2.2.2.2.2.length:Nat):Int)=some (p',0)∧Live p':=by
 obtain⟨d',e,hw,hi⟩:=l12Log_out h h0 hs hl
 have hp:=h.1
 obtain⟨a1,a2,a3,a4,a5,a6,a7,a8,a9,a10,a11⟩:=hp
 have hf:=a11.1
 have hS:=a3
 obtain⟨s1,s2,s3,s4,s5,s6,s7,s8,s9⟩:=hS
 unfold spec_l12Commit_o19_p1
 rw[e,obs,if_neg (by simp),l11Blocks_out _ hf,obs]
 simp only
 rw[l11Merge_out p.2.2.2.2.1 p.2.2.2.2.2 (by have:=a7.1;omega) (by have:=a8.1;omega),obs]
 rw[wrap_in (n:=p.2.2.1+1) (by omega) (by omega),wrap_in (n:=p.2.2.2.1+(1+(((2*p.2.2.2.2.2.length+63) / 64:Nat):Int)+p.2.2.2.2.2.length)) (by omega) (by omega)]
 refine⟨_,rfl,⟨hi.1,fun hc=>?_,a3,?_,?_,?_,mrg_pagesV a7 a8,⟨by simp,fun i hi=>by simp at hi⟩,mrg_within a9 a10,fun x hx=>by simp at hx,⟨by simp,.inl (by simp)⟩⟩,hw⟩
 ·have:=hi.2.2;simp only at hc;omega
 ·show p.2.1.1=((d'.1.length:Nat):Int);rw[hi.2.1];exact a4
 ·exact⟨by simp only;omega,by simp only;omega⟩
 ·exact⟨by simp only;omega,by simp only;omega⟩
theorem commit_live {p:DPager} (h:Live p):∃ p' c,spec_l12Commit_o19 p=some (p',c)∧Live p':=by
 unfold spec_l12Commit_o19
 by_cases h0:((p.2.2.2.2.2.length:Nat):Int)=0
 ·rw[if_pos h0];exact⟨p,0,rfl,h⟩
 rw[if_neg h0]
 by_cases hs:p.2.2.1≥1000000000000
 ·rw[if_pos hs];exact⟨p,5,rfl,h⟩
 rw[if_neg hs]
 have hp:=h.1
 obtain⟨a1,a2,a3,a4,a5,a6,a7,a8,a9,a10,a11⟩:=hp
 have hf:=a11
 unfold FitsV at hf
 have hS:=a3
 obtain⟨s1,s2,s3,s4,s5,s6,s7,s8,s9⟩:=hS
 rw[l11Blocks_out _ hf.1,obs,wrap_in (by omega) (by omega)]
 by_cases hc:p.2.2.2.1+(1+(((2*p.2.2.2.2.2.length+63) / 64:Nat):Int)+p.2.2.2.2.2.length)>p.2.1.2.1
 ·rw[if_pos hc]
  rcases check_live h with e |⟨p',e,hl,g1,g2,g3,g4⟩
  ·rw[e,obs,if_pos (by simp)];exact⟨p,5,rfl,h⟩
  ·rw[e,obs,if_neg (by simp)]
   simp only
   rw[← g2]
   obtain⟨p2,e2,h2⟩:=commit_p1_live hl (by rw[g2];omega) (by rw[g4];omega) (by rw[g1,g2,g3];omega)
   rw[e2,obs]
   exact⟨p2,0,rfl,h2⟩
 ·rw[if_neg hc]
  obtain⟨p2,e2,h2⟩:=commit_p1_live h (by omega) (by omega) (by omega)
  rw[e2,obs]
  exact⟨p2,0,rfl,h2⟩
theorem zeros_rep (n:Nat) (h:n≤256):spec_l09New n=some (List.replicate n zB,-1,false):=by
 unfold spec_l09New spec_l09New_l1
 have:=loop_some (f:=fun s:List Str×Int=>spec_l09New_l1_b n 0 false (-1) false s.1 s.2) (r:=((0:Int),false,List.replicate n zB,(-1:Int),false)) n
  (fun i s=>s=(List.replicate i zB,(i:Int))) (fun i s hi hs=>by
   subst hs
   by_cases hlt:i<n
   ·refine .inr ⟨hlt,_,?_,rfl⟩
    simp only[spec_l09New_l1_b]
    rw[if_pos (by omega),zero_out,obs,w1 (by omega),appS _ _ (by simp[lit];omega),obs]
    simp only[lit,List.replicate_succ',Int.natCast_add,Int.natCast_one]
   ·have:i=n:=by omega
    subst this
    refine .inl ?_
    simp only[spec_l09New_l1_b]
    rw[if_neg (by omega)]) n 0 ([],0) (by omega) rfl
 rw[this];rfl
def d0 (b lg:Nat):DDisk:=((List.replicate b zB).set 0 (encS ((b:Int),(lg:Int),0,0)),[],-1,false)
theorem d0_len (b lg:Nat):(d0 b lg).1.length=b:=by simp[d0]
theorem format_out (b lg:Nat) (hs:SuperV ((b:Int),(lg:Int),0,0)):spec_l10Format ((b:Int),(lg:Int),0,0)=some ((d0 b lg).1,-1,false):=by
 have h1:16≤(b:Int):=hs.1
 have h2:(b:Int)≤256:=hs.2.1
 unfold spec_l10Format
 simp only
 rw[zeros_rep b (by omega),obs,l10Encode_out _ hs.sin,obs]
 simp only
 obtain⟨x,hx⟩:=get_at (l:=List.replicate b zB) (i:=(0:Int).toNat) (by simp;omega)
 rw[if_pos (by simp;omega),hx,obs];rfl
theorem d0_V (b lg:Nat) (hs:SuperV ((b:Int),(lg:Int),0,0)):DiskV (d0 b lg):=by
 have h1:16≤(b:Int):=hs.1
 have h2:(b:Int)≤256:=hs.2.1
 refine⟨by rw[d0_len];exact h1,by rw[d0_len];exact h2,by simp[d0],by simp[d0],by simp[d0],fun x hx=>?_,fun x hx=>by simp[d0] at hx⟩
 rcases List.mem_or_eq_of_mem_set hx with h |h
 ·rw[(List.mem_replicate.1 h).2];exact zB_len
 ·rw[h];exact encS_length _
theorem d0_rd (b lg:Nat) (k:Int) (h0:0≤k) (h1:k<(b:Int)):rdD (d0 b lg) k=if k=0 then encS ((b:Int),(lg:Int),0,0) else zB:=by
 unfold rdD d0
 simp only[List.reverse_nil,List.find?_nil]
 rw[List.getD_eq_getElem?_getD]
 by_cases hk:k=0
 ·subst hk
  rw[if_pos rfl]
  simp only[Int.toNat_zero]
  rw[List.getElem?_set_self (by simp;omega)];rfl
 ·rw[if_neg hk,List.getElem?_set_ne (by omega),List.getElem?_replicate,if_pos (by omega)];rfl
theorem decS_zero:(decS zB).2=false:=by
 cases h:(decS zB).2 with
 |false=>rfl
 |true =>
  exfalso
  unfold decS at h
  split at h
  ·rename_i q
   have hc:=congrArg (fun l:Str=>l[0]?) q.2
   simp[encS,halfS,zB] at hc
  ·cases h
open Classical in
theorem d0_cho (b lg:Nat) (hs:SuperV ((b:Int),(lg:Int),0,0)):choS (d0 b lg)=(((b:Int),(lg:Int),0,0),true):=by
 have h1:16≤(b:Int):=hs.1
 have s0:slotS (d0 b lg) 0=(((b:Int),(lg:Int),0,0),true):=by
  unfold slotS
  rw[d0_rd b lg 0 (by omega) (by omega),if_pos rfl,decS_enc _ hs,if_pos ⟨rfl,by simp only[d0_len],rfl⟩]
 have s1:slotS (d0 b lg) 1=((0,0,0,0),false):=by
  unfold slotS
  rw[d0_rd b lg 1 (by omega) (by omega),if_neg (show ¬(1:Int)=0 by decide),if_neg (fun q=>by rw[decS_zero] at q;cases q.1)]
 unfold choS
 rw[s0,s1,if_pos ⟨rfl,fun q=>by cases q.1⟩]
theorem log_out (d:DDisk) (lg:Nat) (s:DSuper) (hs:s.2.1=lg) (hd:DiskV d) (hz:∀ i:Nat,i<lg→rdD d (2+i)=zB) (hl:(lg:Int)+2≤d.1.length) (h64:lg≤64) :
  spec_l11Log d s=some (List.replicate lg zB):=by
 unfold spec_l11Log spec_l11Log_l1
 have:=loop_some (f:=fun st:List Str×Int=>spec_l11Log_l1_b d s st.1 st.2) (r:=List.replicate lg zB) lg
  (fun i st=>st=(List.replicate i zB,(i:Int))) (fun i st hi hst=>by
   subst hst
   simp only[spec_l11Log_l1_b,hs]
   by_cases hlt:i<lg
   ·refine .inr ⟨hlt,_,?_,rfl⟩
    rw[if_pos (by omega),wrap_in (n:=2+(i:Int)) (by omega) (by omega),l09Read_out d _ (by have:=hd.2.2.1;omega),(readD_out d _ hd (by omega) (by omega)).1,hz i hlt,obs,appS _ _ (by simp[lit];omega),obs,w1 (by omega)]
    simp only[lit,List.replicate_succ',Int.natCast_add,Int.natCast_one]
   ·have:i=lg:=by omega
    subst this
    refine .inl ?_
    rw[if_neg (by omega)]) lg 0 ([],0) (by omega) rfl
 rw[show loopO (fun st:List Str×Int=>spec_l11Log_l1_b d s st.1 st.2) (([]:List Str),0)=_ from this];rfl
theorem number_zero:∃ a b,spec_l11Number zB=some (a,b,false):=by
 unfold spec_l11Number
 rw[if_neg (by simp[zB]),show subL zB none (some 4)=some (zB.take 4) from subL_to zB 4 (by simp[zB]),obs,if_pos (by decide)]
 exact⟨_,_,rfl⟩
theorem decode_zero (lg:Nat) (h:0<lg):spec_l11Decode (List.replicate lg zB)=some (0,10):=by
 unfold spec_l11Decode
 rw[if_neg (by simp;omega),if_pos (by omega)]
 rw[show (List.replicate lg zB)[(0:Int).toNat]?=some zB by rw[List.getElem?_replicate,if_pos (by simp;omega)],obs]
 obtain⟨a,b,e⟩:=number_zero
 rw[e,obs,if_pos (by simp)]
theorem scan_out (d:DDisk) (lg:Nat) (s:DSuper) (hs:s.2.1=lg) (hd:DiskV d) (hz:∀ i:Nat,i<lg→rdD d (2+i)=zB) (hl:(lg:Int)+2≤d.1.length) (h64:lg≤64) (h0:0<lg):spec_l11Scan d s=some 0:=by
 unfold spec_l11Scan spec_l11Scan_l1
 rw[log_out d lg s hs hd hz hl h64,obs]
 rw[loopO_inr (f:=fun _:Unit=>spec_l11Scan_l1_b s (List.replicate lg zB) 0) (r:=0) (by
  simp only[spec_l11Scan_l1_b,hs]
  rw[if_pos (by omega),show subL (List.replicate lg zB) (some 0) none=some ((List.replicate lg zB).drop 0) from subL_from _ 0 (by omega),obs,List.drop_zero,decode_zero lg h0,obs,if_pos (by simp)])]
 rfl
theorem fresh_live (b lg:Nat) (hs:SuperV ((b:Int),(lg:Int),0,0)):∃ p,spec_l12Fresh b lg=some p∧Live p:=by
 have hV:=d0_V b lg hs
 have hcho:=d0_cho b lg hs
 have hS:=hs
 obtain⟨s1,s2,s3,s4,s5,s6,s7,s8,s9⟩:=hS
 simp only at s1 s2 s3 s4 s5
 have hin:PagerIn (d0 b lg,((b:Int),(lg:Int),0,0),0,0,[],[]) 1048576:=⟨by rw[d0_len];omega,by simp[d0],by simp,by simp⟩
 have hL:Live (d0 b lg,((b:Int),(lg:Int),0,0),0,0,[],[]):=by
  refine⟨⟨hV,fun hc=>by simp[d0] at hc,hs,?_,?_,?_,⟨by simp,fun i hi=>by simp at hi⟩,⟨by simp,fun i hi=>by simp at hi⟩,fun x hx=>by simp at hx,fun x hx=>by simp at hx,⟨by simp,.inl rfl⟩⟩,rfl,rfl⟩
  ·show (b:Int)=_;rw[d0_len]
  ·simp
  ·simp
 unfold spec_l12Fresh
 rw[format_out b lg hs,obs]
 simp only
 rw[show ((d0 b lg).1,([]:List (Int×Str)),(-1:Int),false)=d0 b lg from rfl]
 have hopen:∃ p,spec_l12Open (d0 b lg)=some (p,0)∧Live p∨∃ c,spec_l12Open (d0 b lg)=some (p,c)∧Live p:=by
  unfold spec_l12Open
  rw[l10Choose_out _ hV,hcho,if_pos rfl,obs,if_neg (by simp)]
  simp only
  rw[scan_out (d0 b lg) lg ((b:Int),(lg:Int),0,0) rfl hV (fun i hi=>by rw[d0_rd b lg _ (by omega) (by omega),if_neg (by omega)]) (by rw[d0_len];omega) (by omega) (by omega),obs]
  have hst:spec_l11State ([]:List (Int×List (Int×Str))) ((b:Int),(lg:Int),0,0)=some 0:=by
   unfold spec_l11State spec_l11State_l1
   rw[loopO_inr (r:=(0:Int)) (by simp[spec_l11State_l1_b])];rfl
  rw[hst,obs]
  have hown:=l12Own_out _ hin
  rw[show spec_l12Own (((d0 b lg).1,(d0 b lg).2.1,(d0 b lg).2.2.1,(d0 b lg).2.2.2),((b:Int),(lg:Int),0,0),0,0,([]:List (Int×Str)),([]:List (Int×Str)))=_ from hown,obs]
  rcases check_live hL with e |⟨p',e,hl,_⟩
  ·exfalso
   unfold spec_l12Check_o19 at e
   rw[if_neg (by simp)] at e
   obtain⟨hi,hl,hs',hN,hlt,h16⟩:=pv_inv hL.1 (by simp)
   have hc:=pw_ck hL.2 [] (nxS (((b:Int),(lg:Int),0,0),0,0,[],[])) lg
   have h2:=sCheck hL.1 (by simp)
   unfold spec_l12Check_o19 at h2
   rw[if_neg (by simp)] at h2
   rw[h2] at e
   have hz:(ckR (d0 b lg) (((b:Int),(lg:Int),0,0),0,0,[],[])).2=0:=by
    have:=hc.1
    simp only[ckR]
    rw[show (lg:Int).toNat=lg by omega]
    exact this
   unfold endK at e
   rw[if_pos hz] at e
   simp at e
  ·rw[e,obs]
   refine⟨p',.inl ⟨?_,hl⟩⟩
   unfold spec_l12Done_o26
   simp only[if_true,obs,and_self,fixLen_self]
 obtain⟨p,h |⟨c,h⟩⟩:=hopen
 ·rw[h.1,obs];exact⟨p,rfl,h.2⟩
 ·rw[h.1,obs];exact⟨p,rfl,h.2⟩
theorem and255u (x:Int):0≤bitV .and .u64 x 255∧bitV .and .u64 x 255≤255:=by
 have h:((BitVec.ofInt 64 x) &&& (BitVec.ofInt 64 255)).toNat≤255:=by
  rw[BitVec.toNat_and];exact Nat.le_trans Nat.and_le_right (by decide)
 have e:bitV .and .u64 x 255=IntKind.u64.wrap (((BitVec.ofInt 64 x) &&& (BitVec.ofInt 64 255)).toNat:Int):=rfl
 rw[e]
 generalize ((BitVec.ofInt 64 x) &&& (BitVec.ofInt 64 255)).toNat=m at h
 rw[IntKind.wrap_u64];omega
theorem next_out (c:List Bt) (a s:Int) (h0:0≤a) (h1:a≤1000000):∃ s' v,spec_l00Src_next_o9d c a s=some (c,a+1,s',v)∧0≤v∧v≤255:=by
 have hp:∀ b:Int,0≤b→b≤255→∃ s' v,spec_l00Src_next_o9d_p1 c a s b=some (c,a+1,s',v)∧0≤v∧v≤255:=fun b hb hb'=>by
  unfold spec_l00Src_next_o9d_p1
  rw[wrap_in (n:=a+1) (by omega) (by omega)]
  split
  ·exact⟨_,_,rfl,hb,hb'⟩
  ·have:=and255u (shrV .u64 (IntKind.u64.wrap (IntKind.u64.wrap (IntKind.u64.wrap (s*6364136223846793005)+IntKind.u64.wrap b)+1442695040888963407)) 40)
   exact⟨_,_,rfl,by rw[wrap_in (by omega) (by omega)];exact this.1,by rw[wrap_in (by omega) (by omega)];exact this.2⟩
 unfold spec_l00Src_next_o9d
 by_cases h:a<(c.length:Int)
 ·rw[if_pos h,if_pos h0]
  obtain⟨x,hx⟩:=get_at (l:=c) (i:=a.toNat) (by omega)
  have hb:(x.v.toNat:Int)≤255:=by have:=x.v.toNat_lt;omega
  rw[hx,obs,wrap_in (n:=(x.v.toNat:Int)) (by omega) (by omega)]
  obtain⟨s',v,e,h2⟩:=hp x.v.toNat (by omega) hb
  exact⟨s',v,by rw[e];rfl,h2⟩
 ·rw[if_neg h]
  obtain⟨s',v,e,h2⟩:=hp 0 (by omega) (by omega)
  exact⟨s',v,by rw[e];rfl,h2⟩
theorem pick_out (c:List Bt) (a s n:Int) (h0:0≤a) (h1:a≤999999):∃ a' s' v,spec_l00Src_pick_o30 c a s n=some (c,a',s',v)∧(a≤a'∧a'≤a+2)∧0≤v∧(v<n∨v=0):=by
 unfold spec_l00Src_pick_o30
 by_cases hn:n≤1
 ·rw[if_pos hn];exact⟨a,s,0,rfl,by omega,by omega,.inr rfl⟩
 rw[if_neg hn]
 obtain⟨s1,v1,e1,l1,u1⟩:=next_out c a s h0 (by omega)
 rw[e1,obs]
 have hz:¬n=0:=by omega
 have tm:∀ v:Int,0≤v→0≤Int.tmod v n∧Int.tmod v n<n:=fun v hv=>by
  rw[Int.tmod_eq_emod_of_nonneg hv]
  exact⟨Int.emod_nonneg _ (by omega),Int.emod_lt_of_pos _ (by omega)⟩
 by_cases h2:n>200
 ·rw[if_pos h2]
  obtain⟨s2,v2,e2,l2,u2⟩:=next_out c (a+1) s1 (by omega) (by omega)
  simp only
  rw[e2,obs,if_neg hz]
  have e3:IntKind.i64.wrap (v1*256)=v1*256:=wrap_in (by omega) (by omega)
  have e4:IntKind.i64.wrap (v1*256+v2)=v1*256+v2:=wrap_in (by omega) (by omega)
  have:=tm (v1*256+v2) (by omega)
  refine⟨a+1+1,s2,_,rfl,by omega,?_,?_⟩
  ·simp only[e3,e4];exact this.1
  ·simp only[e3,e4];exact .inl this.2
 ·rw[if_neg h2,if_neg hz]
  have:=tm v1 l1
  exact⟨a+1,s1,_,rfl,by omega,this.1,.inl this.2⟩
theorem one_out (c:List Bt) (a s n:Int) (h0:0≤a) (h1:a≤999999):∃ a' s' b,spec_l00Src_one_o30 c a s n=some (c,a',s',b)∧(a≤a'∧a'≤a+2):=by
 obtain⟨a',s',v,e,h2,_⟩:=pick_out c a s n h0 h1
 exact⟨a',s',_,by unfold spec_l00Src_one_o30;rw[e];rfl,h2⟩
theorem among_out (c:List Bt) (a s:Int) (l:List Int) (hl:0<l.length) (h0:0≤a) (h1:a≤999999):∃ a' s' x,spec_l00Src_among_o72 c a s l=some (c,a',s',l,x)∧(a≤a'∧a'≤a+2)∧x∈l:=by
 obtain⟨a',s',v,e,h2,h3,h4⟩:=pick_out c a s l.length h0 h1
 obtain⟨x,hx⟩:=get_at (l:=l) (i:=v.toNat) (by omega)
 refine⟨a',s',x,?_,h2,List.mem_of_getElem? hx⟩
 unfold spec_l00Src_among_o72
 rw[e,obs]
 simp only
 rw[if_pos (by omega),hx];rfl
theorem drawBlock_out (c:List Bt) (a s:Int) (h0:0≤a) (h1:a≤900000):∃ a' s' b,spec_l09DrawBlock_o9d c a s=some (c,a',s',b)∧(a≤a'∧a'≤a+20)∧b.length=64:=by
 unfold spec_l09DrawBlock_o9d spec_l09DrawBlock_o9d_l1 spec_l09DrawBlock_o9d_l2
 obtain⟨a1,s1,v,e1,l1,v0,v1⟩:=pick_out c a s 9 h0 (by omega)
 rw[e1,obs]
 simp only
 obtain⟨n,hn⟩:∃ n:Nat,1+v=n:=⟨(1+v).toNat,by omega⟩
 rw[wrap_in (n:=1+v) (by omega) (by omega),hn]
 obtain⟨r,hr,q1,q2,q3,q4,q5⟩:=loop_ex (f:=fun st:List Bt×Int×Int×List Bt×Int=>spec_l09DrawBlock_o9d_l1_b n st.1 st.2.1 st.2.2.1 st.2.2.2.1 st.2.2.2.2) (fun r=>r.1=c∧(a1≤r.2.1∧r.2.1≤a1+n)∧r.2.2.2.1=(n:Int)∧r.2.2.2.2.length=n∧True) n (fun k st=>st.1=c∧st.2.1=a1+k∧st.2.2.2.1.length=k∧st.2.2.2.2=(k:Int)) (fun k st hk hs=>by
  obtain⟨h1,h2,h3,h4⟩:=hs
  simp only[spec_l09DrawBlock_o9d_l1_b,h1,h2,h4]
  by_cases hlt:k<n
  ·obtain⟨s',v,e,_⟩:=next_out c (a1+k) st.2.2.1 (by omega) (by omega)
   rw[if_pos (by omega),e,obs,appB _ _ (by simp[lit];omega),obs]
   exact .inr ⟨hlt,_,rfl,rfl,by simp only;omega,by simp[lit];omega,w1 (by omega)⟩
  ·rw[if_neg (by omega)]
   exact .inl ⟨_,rfl,rfl,by simp only;omega,rfl,by simp only;omega,trivial⟩) n 0 (c,a1,s1,[],0) (by omega) ⟨rfl,by simp,rfl,rfl⟩
 rw[hr,obs]
 obtain⟨r1,r2,r3,r4,r5⟩:=r
 simp only at q1 q2 q3 q4
 subst q1
 obtain⟨a2,s2,b,e2,l2⟩:=one_out r1 r2 r3 3 (by omega) (by omega)
 simp only
 rw[e2,obs]
 simp only
 split
 ·have:=l01Pad_out (r5.map Bt.v) 64 (by simp;omega) (by omega)
  rw[show ((64:Nat):Int)=64 from rfl] at this
  rw[this,obs]
  exact⟨a2,s2,_,rfl,by omega,by simp;omega⟩
 ·obtain⟨u,hu,u1,u2,u3,u4⟩:=loop_ex (f:=fun st:List Bt=>spec_l09DrawBlock_o9d_l2_b r1 a2 s2 r4 st) (fun r=>r.1=r1∧r.2.1=a2∧r.2.2.1=s2∧r.2.2.2.length=64) (64-n) (fun k st=>st.length=n+k) (fun k st hk hs=>by
   simp only[spec_l09DrawBlock_o9d_l2_b,q3]
   by_cases hlt:k<64-n
   ·have t1:0≤Int.tmod ((st.length:Nat):Int) (n:Int)∧Int.tmod ((st.length:Nat):Int) (n:Int)<n:=by
     rw[Int.tmod_eq_emod_of_nonneg (by omega)]
     exact⟨Int.emod_nonneg _ (by omega),Int.emod_lt_of_pos _ (by omega)⟩
    obtain⟨x,hx⟩:=get_at (l:=st) (i:=(Int.tmod ((st.length:Nat):Int) (n:Int)).toNat) (by omega)
    rw[if_pos (by omega),if_neg (by omega),if_pos (by omega),hx,obs,appB _ _ (by simp[lit];omega),obs]
    exact .inr ⟨hlt,_,rfl,by simp[lit];omega⟩
   ·rw[if_neg (by omega)]
    exact .inl ⟨_,rfl,rfl,rfl,rfl,by simp only;omega⟩) (64-n) 0 r5 (by omega) (by omega)
  rw[hu,obs,u1,u2,u3]
  exact⟨a2,s2,_,rfl,by omega,by simp;omega⟩
theorem area_data {p:DPager} (hp:PagerV p):2+p.2.1.2.1=areaK p∧areaK p≤p.2.1.1-1:=by
 have:=area_in hp
 exact⟨rfl,by omega⟩
theorem setArea_live {p:DPager} (h:Live p) (d:Str) (hd:d.length=64) (hs:SetV p (areaK p) d):Live (setP p (areaK p) d):=by
 have:=area_data h.1
 exact⟨setP_valid p _ d h.1 (by omega) (by omega) hd hs,h.2⟩
open Classical in
theorem put_live {p:DPager} (h:Live p) (d:Str) (hd:d.length=64):∃ p' c,spec_l13Put_oea p d=some (p',c)∧Live p':=by
 rw[l13Put_out p d h.1 h.1.in1]
 by_cases hs:SetV p (areaK p) d
 ·rw[if_pos hs];exact⟨_,_,rfl,setArea_live h d hd hs⟩
 ·rw[if_neg hs];exact⟨_,_,rfl,h⟩
open Classical in
theorem allocate_live {p:DPager} (h:Live p) (n:Int) (h1:1≤n) (h2:n≤256):∃ p' x,spec_l13Allocate_of2 p n=some (p',x)∧Live p':=by
 rw[l13Allocate_out p n h.1 h.1.in1 h1 h2]
 unfold outA
 by_cases hz:(bestP (runsP p) n).2=0
 ·rw[if_pos hz];exact⟨_,_,rfl,h⟩
 ·rw[if_neg hz]
  by_cases hs:AllV p n
  ·rw[if_pos hs];exact⟨_,_,rfl,setArea_live h _ (by rw[markP_len];exact areaP_len h.1) hs⟩
  ·rw[if_neg hs];exact⟨_,_,rfl,h⟩
theorem first_out {p:DPager} (hp:PagerV p):spec_l13First p=some (areaK p+1):=by
 have:=area_in hp
 unfold spec_l13First
 rw[l10Area_out p hp,obs,wrap_in (by omega) (by omega)]
theorem release_live {p:DPager} (h:Live p) (k n:Int) (h0:-9223372036854775808≤n) (h1:n≤9223372036854775807):∃ p' c,spec_l13Release_oe8 p k n=some (p',c)∧Live p':=by
 have hp:=h.1
 have hin:=hp.in1
 have ha:=area_in hp
 have hl:=areaP_len hp
 unfold spec_l13Release_oe8
 rw[l13Data_out p hp k n h0 h1,obs]
 by_cases hd:1≤n∧n≤256∧areaK p<k∧k≤(p.1.1.length:Int)-n
 case neg=>rw[if_pos (by simpa using hd)];exact⟨_,_,rfl,h⟩
 rw[if_neg (by simpa using hd),l13Area_out p hp hin,obs]
 unfold spec_l13Release_oe8_l1
 have hw:IntKind.i64.wrap (k+n)=k+n:=wrap_in (by omega) (by omega)
 obtain⟨r,hr,hP⟩:=loop_ex (f:=fun st:Int=>spec_l13Release_oe8_l1_b p k n (areaP p) st) (fun r=>r=.inl (p,k,n,areaP p)∨r=.inr (p,6)) n.toNat (fun i st=>st=k+i∧(i:Int)≤n) (fun i st hi hs=>by
  obtain⟨rfl,hin⟩:=hs
  simp only[spec_l13Release_oe8_l1_b]
  rw[hw]
  by_cases hlt:(i:Int)<n
  ·rw[if_pos (by omega),l13Bit_out (areaP p) (k+i) hl (by omega) (by omega),obs,wrap_in (n:=k+i+1) (by omega) (by omega)]
   by_cases hb:bitP (areaP p) (k+i)=true
   ·rw[if_neg (by simpa using hb)]
    exact .inr ⟨by omega,_,rfl,by omega,by omega⟩
   ·rw[if_pos (by simpa using hb)]
    exact .inl ⟨_,rfl,.inr rfl⟩
  ·rw[if_neg (by omega)]
   exact .inl ⟨_,rfl,.inl rfl⟩) n.toNat 0 k (by omega) ⟨by omega,by omega⟩
 rw[hr,obs]
 rcases hP with rfl |rfl
 ·simp only[Sum.elim_inl]
  rw[l13Mark_out (areaP p) k n false hl (by omega) (by omega) (by omega),obs]
  obtain⟨p',c,e,hl'⟩:=put_live h (markP (areaP p) k n false) (by rw[markP_len];exact hl)
  rw[e,obs]
  exact⟨_,_,rfl,hl'⟩
 ·exact⟨_,_,rfl,h⟩
theorem draw_p2 (c:List Bt) (a s:Int) (j0:Int) (j1:Bool) (j2 j3 j4 j5 j6 j7:Int) (p:DPager) (k:Int) (h0:0≤a) (h1:a≤900000) (h:Live p) :
  ∃ a' s' p',spec_l13Draw_o9d_p2 c a s j0 j1 j2 j3 j4 j5 j6 j7 p k=some (c,a',s',j0,j1,j2,j3,j4,j5,j6,j7,p',k)∧(a≤a'∧a'≤a+2)∧Live p':=by
 unfold spec_l13Draw_o9d_p2
 obtain⟨a1,s1,b,e,l⟩:=one_out c a s 4 h0 (by omega)
 rw[e,obs]
 simp only
 split
 ·obtain⟨p',x,e2,h2⟩:=commit_live h
  rw[e2,obs]
  exact⟨_,_,_,rfl,l,h2⟩
 ·exact⟨_,_,_,rfl,l,h⟩
theorem l13Draw_out (c:List Bt) (a s:Int) (h0:0≤a) (h1:a≤500000):∃ a' s' p,spec_l13Draw_o9d c a s=some (c,a',s',p)∧(a≤a'∧a'≤a+300)∧PagerIn p 1000∧16≤p.1.1.length:=by
 unfold spec_l13Draw_o9d
 obtain⟨a1,s1,x1,e1,l1,m1⟩:=among_out c a s (lit [24,40,60]) (by simp[lit]) h0 (by omega)
 rw[e1,obs,if_pos rfl]
 simp only
 obtain⟨a2,s2,v2,e2,l2,m2,n2⟩:=pick_out c a1 s1 8 (by omega) (by omega)
 rw[e2,obs]
 simp only
 have hx:x1=24∨x1=40∨x1=60:=by simpa [lit] using m1
 obtain⟨b,hb⟩:∃ b:Nat,x1=b:=⟨x1.toNat,by omega⟩
 obtain⟨lg,hlg⟩:∃ lg:Nat,8+v2=lg:=⟨(8+v2).toNat,by omega⟩
 rw[wrap_in (n:=8+v2) (by omega) (by omega),hb,hlg]
 obtain⟨p0,e3,hp0⟩:=fresh_live b lg ⟨by simp only;omega,by simp only;omega,by simp only;omega,by simp only;omega,by simp only;omega,by simp only;omega,by simp only;omega,by simp only;omega,by simp only;omega⟩
 rw[e3,obs]
 obtain⟨a4,s4,v4,e4,l4,m4,n4⟩:=pick_out c a2 s2 9 (by omega) (by omega)
 rw[e4,obs]
 simp only
 obtain⟨n,hn⟩:∃ n:Nat,v4=n:=⟨v4.toNat,by omega⟩
 rw[hn]
 unfold spec_l13Draw_o9d_l1
 obtain⟨r,hr,q1,q2,q3⟩:=loop_ex (f:=fun s:List Bt×Int×Int×Int×Bool×Int×Int×Int×Int×Int×Int×DPager×Int=>spec_l13Draw_o9d_l1_b s.1 s.2.1 s.2.2.1 s.2.2.2.1 s.2.2.2.2.1 s.2.2.2.2.2.1 s.2.2.2.2.2.2.1 s.2.2.2.2.2.2.2.1 s.2.2.2.2.2.2.2.2.1 s.2.2.2.2.2.2.2.2.2.1 s.2.2.2.2.2.2.2.2.2.2.1 s.2.2.2.2.2.2.2.2.2.2.2.1 s.2.2.2.2.2.2.2.2.2.2.2.2)
  (fun r=>r.1=c∧(a4≤r.2.1∧r.2.1≤a4+10*n)∧Live r.2.2.2.2.2.2.2.2.2.2.2) n (fun i st=>st.1=c∧(a4≤st.2.1∧st.2.1≤a4+10*i)∧Live st.2.2.2.2.2.2.2.2.2.2.2.1∧st.2.2.2.2.2.2.2.2.2.2.2.2=(n:Int)-i) (fun i st hi hs=>by
  obtain⟨g1,g2,g3,g4⟩:=hs
  obtain⟨c',a',s',j0,j1,j2,j3,j4,j5,j6,j7,p,k⟩:=st
  simp only at g1 g2 g3 g4
  subst g1
  subst g4
  simp only[spec_l13Draw_o9d_l1_b]
  by_cases hlt:i<n
  case neg =>
   rw[if_neg (by omega)]
   exact .inl ⟨_,rfl,rfl,by simp only;omega,g3⟩
  rw[if_pos (by omega)]
  obtain⟨b1,t1,y1,f1,d1⟩:=one_out c' a' s' 3 (by omega) (by omega)
  rw[f1,obs]
  simp only
  have fin:∀ (b2 t2:Int) (p2:DPager),a'≤b2→b2≤a'+6→Live p2→∃ s'',((spec_l13Draw_o9d_p2 c' b2 t2 j0 j1 j2 j3 j4 j5 j6 j7 p2 ((n:Int)-i)).bind fun r40=>some (Sum.inl (β:=List Bt×Int×Int×Int×Bool×Int×Int×Int×Int×Int×Int×DPager) (r40.1,r40.2.1,r40.2.2.1,r40.2.2.2.1,r40.2.2.2.2.1,r40.2.2.2.2.2.1,r40.2.2.2.2.2.2.1,r40.2.2.2.2.2.2.2.1,r40.2.2.2.2.2.2.2.2.1,r40.2.2.2.2.2.2.2.2.2.1,r40.2.2.2.2.2.2.2.2.2.2.1,r40.2.2.2.2.2.2.2.2.2.2.2.1,IntKind.i64.wrap (r40.2.2.2.2.2.2.2.2.2.2.2.2-1))))=some (.inl s'')∧s''.1=c'∧(a4≤s''.2.1∧s''.2.1≤a4+10*((i+1:Nat):Int))∧Live s''.2.2.2.2.2.2.2.2.2.2.2.1∧s''.2.2.2.2.2.2.2.2.2.2.2.2=(n:Int)-((i+1:Nat):Int):=fun b2 t2 p2 z0 z1 hl=>by
   obtain⟨b3,t3,p3,f3,d3,hl3⟩:=draw_p2 c' b2 t2 j0 j1 j2 j3 j4 j5 j6 j7 p2 ((n:Int)-i) (by omega) (by omega) hl
   rw[f3,obs]
   simp only
   rw[wrap_in (n:=(n:Int)-i-1) (by omega) (by omega)]
   exact⟨_,rfl,rfl,by simp only;omega,hl3,by simp only;omega⟩
  split
  ·obtain⟨b2,t2,y2,f2,d2,m2,n2⟩:=pick_out c' b1 t1 12 (by omega) (by omega)
   obtain⟨b3,t3,y3,f3,d3,m3,n3⟩:=pick_out c' b2 t2 3 (by omega) (by omega)
   have ha:=area_in g3.1
   rw[first_out g3.1,obs,f2,obs]
   simp only
   rw[f3,obs]
   simp only
   rw[wrap_in (n:=1+y3) (by omega) (by omega)]
   obtain⟨p2,x2,f4,hl⟩:=release_live g3 (IntKind.i64.wrap (areaK p+1+y2)) (1+y3) (by omega) (by omega)
   rw[f4,obs]
   obtain⟨s'',f5,f6⟩:=fin b3 t3 p2 (by omega) (by omega) hl
   exact .inr ⟨hlt,s'',f5,f6⟩
  ·obtain⟨b2,t2,y2,f2,d2,m2,n2⟩:=pick_out c' b1 t1 5 (by omega) (by omega)
   rw[f2,obs]
   simp only
   rw[wrap_in (n:=1+y2) (by omega) (by omega)]
   obtain⟨p2,x2,f4,hl⟩:=allocate_live g3 (1+y2) (by omega) (by omega)
   rw[f4,obs]
   obtain⟨s'',f5,f6⟩:=fin b2 t2 p2 (by omega) (by omega) hl
   exact .inr ⟨hlt,s'',f5,f6⟩) n 0 (c,a4,s4,0,false,0,0,0,0,0,0,p0,(n:Int)) (by omega) ⟨rfl,by simp only;omega,hp0,by simp only;omega⟩
 rw[hr,obs]
 obtain⟨c',a',s',j0,j1,j2,j3,j4,j5,j6,j7,p⟩:=r
 simp only at q1 q2 q3
 subst q1
 simp only
 obtain⟨a5,s5,v5,e5,l5⟩:=one_out c' a' s' 3 (by omega) (by omega)
 rw[e5,obs]
 simp only
 have hpin:=q3.1.pin
 have h16:16≤p.1.1.length:=by have:=q3.1.1.1;omega
 split
 ·obtain⟨a6,s6,v6,e6,l6,_⟩:=pick_out c' a5 s5 9 (by omega) (by omega)
  obtain⟨a7,s7,v7,e7,l7,_⟩:=drawBlock_out c' a6 s6 (by omega) (by omega)
  rw[first_out q3.1,obs,e6,obs]
  simp only
  rw[e7,obs]
  simp only
  rw[l12Set_out p _ _ q3.1.in1,obs]
  refine⟨_,_,_,rfl,by omega,?_⟩
  split
  ·refine⟨⟨hpin.1,hpin.2.1,hpin.2.2.1,?_⟩,h16⟩
   have:=setL_len (IntKind.i64.wrap (areaK p+1+v6)) v7 p.2.2.2.2.2
   have:=q3.1.2.2.2.2.2.2.2.1.1
   simp only[setP]
   omega
  ·exact⟨hpin,h16⟩
 ·exact⟨_,_,_,rfl,by omega,hpin,h16⟩
theorem l13Bent_out (c:List Bt) (a s m:Int) (h0:0≤a) (h1:a≤400000):∃ a' s' p,spec_l13Bent_o30 c a s m=some (c,a',s',p)∧(a≤a'∧a'≤a+310)∧PagerIn p 1048576:=by
 unfold spec_l13Bent_o30
 obtain⟨a1,s1,p,e1,l1,hp,h16⟩:=l13Draw_out c a s h0 (by omega)
 rw[e1,obs]
 simp only
 obtain⟨a2,s2,v2,e2,l2⟩:=one_out c a1 s1 m (by omega) (by omega)
 rw[e2,obs]
 simp only
 split
 case isFalse=>exact⟨_,_,_,rfl,by omega,hp.up⟩
 obtain⟨a3,s3,v3,e3,l3,_⟩:=pick_out c a2 s2 3 (by omega) (by omega)
 rw[e3,obs]
 simp only
 split
 ·exact⟨_,_,_,rfl,by omega,hp.up⟩
 split
 ·have:cutO p.1.1 (some 1) none=some (p.1.1.drop 1):=by
   unfold cutO
   rw[show subL p.1.1 (some 1) none=some (p.1.1.drop 1) from subL_from p.1.1 1 (by omega),obs,if_neg]
   intro hh
   have h2:=congrArg List.length hh
   simp at h2
   omega
  rw[this,obs]
  exact⟨_,_,_,rfl,by omega,by have:=hp.1;simp only[List.length_drop];omega,hp.up.2⟩
 ·have:=hp.2.2.2
  rw[happ24 _ _ (by omega),obs]
  exact⟨_,_,_,rfl,by omega,hp.up.1,hp.up.2.1,hp.up.2.2.1,by simp only[List.length_append,List.length_singleton];omega⟩
end Go.Proofs.TM
