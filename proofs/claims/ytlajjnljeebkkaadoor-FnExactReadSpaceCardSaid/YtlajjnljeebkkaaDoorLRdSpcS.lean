import Derived.Test.YtlajjnljeebkkaaDoorLSpc
import Derived.Test.YtlajjnljeebkkaaDoorLSplitS
namespace Go.Proofs.TM
open Go Go.Proofs
set_option maxHeartbeats 1000000
def prE (t:Str):Int×Int:=match spl 47 t with
 |[]=>(-1,-1)
 |[a]=>(num6 a,num6 a)
 |a::b::_=>(num6 a,if b=[42] then -1 else num6 b)
theorem dig_ne {b:UInt8} (h:isD b) (c:UInt8) (hc:¬isD c):b≠c:=fun e=>hc (e ▸ h)
theorem tE_ne {p:Int×Int} (h:OkP p) (c:UInt8) (hc:¬isD c) (h47:c≠47) (h42:c≠42):∀ b∈tE p,b≠c:=by
 obtain⟨a1,a2,a3,a4⟩:=h.b
 intro b hb
 unfold tE at hb
 rcases List.mem_append.1 hb with hb |hb
 ·exact dig_ne (itoa_dig a1 b hb) c hc
 ·split at hb
  ·cases hb
  ·split at hb
   ·simp only[List.mem_cons,List.not_mem_nil,or_false] at hb
    rcases hb with rfl |rfl
    ·exact h47.symm
    ·exact h42.symm
   ·rcases List.mem_cons.1 hb with rfl |hb
    ·exact h47.symm
    ·have:OkP p:=h
     unfold OkP at this
     exact dig_ne (itoa_dig (by omega) b hb) c hc
theorem prE_tE {p:Int×Int} (h:OkP p):prE (tE p)=p:=by
 obtain⟨a1,a2,a3,a4⟩:=h.b
 have hd:∀ n:Int,0≤n→∀ x∈Lib.itoa n,x≠47:=fun n hn x hx=>dig_ne (itoa_dig hn x hx) 47 (by decide)
 unfold prE tE
 by_cases he:p.2=p.1
 ·rw[if_pos he,List.append_nil,spl_miss 47 _ (hd _ a1)]
  show (num6 _,num6 _)=p
  rw[num6_itoa _ a1 (by omega)]
  exact Prod.ext rfl he.symm
 ·rw[if_neg he]
  by_cases hm:p.2=-1
  ·rw[if_pos hm,spl_hit 47 _ _ (hd _ a1),spl_miss 47 [42] (by simp)]
   show (num6 _,if [42]=[42] then -1 else _)=p
   rw[if_pos rfl,num6_itoa _ a1 (by omega)]
   exact Prod.ext rfl hm.symm
  ·rw[if_neg hm,spl_hit 47 _ _ (hd _ a1),spl_miss 47 _ (hd _ (by omega))]
   show (num6 _,if _=[42] then -1 else _)=p
   have hne:Lib.itoa p.2≠[42]:=fun e=>by
    have:=itoa_dig (n:=p.2) (by omega) 42 (by rw[e];simp)
    exact absurd this (by decide)
   rw[if_neg hne,num6_itoa _ a1 (by omega),num6_itoa _ (by omega) (by omega)]
theorem rdP2_out (s:Str) (D M:List Int) (P:List Str) (i a b:Int) (h:D.length≤1000) (h':M.length≤1000):spec_ReadSpace_p2 s (D,M) P i a b=some (s,(D++[a],M++[b]),P,i):=by
 unfold spec_ReadSpace_p2
 rw[appL_one 8 _ _ (by unfold maxRow;simp only;omega),obs,appL_one 8 _ _ (by unfold maxRow;simp only;omega),obs]
theorem rdLoop_out (s:Str) (P:List Str) (h:P.length≤1048577) (hP:∀ x∈P,x.length≤1048576):∃ n,n≤P.length∧(n=if s.length>2 then min P.length 8 else 0) ∧
  spec_ReadSpace_l1 (s,([],[]),P,0)=some (s,(((P.take n).map prE).map (·.1),((P.take n).map prE).map (·.2))):=by
 have hmin:min P.length 8≤P.length∧min P.length 8≤8∧(min P.length 8=P.length∨min P.length 8=8):=by omega
 refine⟨if s.length>2 then min P.length 8 else 0,by split <;> omega,rfl,?_⟩
 generalize hN:(if s.length>2 then min P.length 8 else 0)=N
 have hN8:N≤8∧N≤P.length:=by rw[← hN];split <;> omega
 unfold spec_ReadSpace_l1
 refine loop_some N (fun i t=>t=(s,(((P.take i).map prE).map (·.1),((P.take i).map prE).map (·.2)),P,(i:Int))) (fun i t hi ht=>?_) N 0 _ (by omega) (by simp)
 subst ht
 unfold spec_ReadSpace_l1_b
 simp only
 by_cases hn:i<N
 ·have hs2:s.length>2:=by
   by_cases hs:s.length>2
   ·exact hs
   ·rw[if_neg hs] at hN;omega
  obtain⟨x,hx⟩:=get_at (show i<P.length by omega)
  have hxl:=hP x (List.mem_of_getElem? hx)
  have hsl:=spl_len 47 x
  obtain⟨a,t,e⟩:=spl_ne 47 x
  have hlt:(((P.take i).map prE).map (·.1)).length≤1000∧(((P.take i).map prE).map (·.2)).length≤1000:=by simp only[List.length_map,List.length_take];omega
  rw[if_pos (by omega),if_pos (by omega),if_pos (by omega),if_pos (by omega),Int.toNat_natCast,hx,obs]
  have e47:=l05Split_out x 47 hxl
  rw[show (((47:UInt8).toNat:Nat):Int)=47 from rfl] at e47
  rw[e47,obs,e]
  simp only[List.length_cons,Int.toNat_zero,List.getElem?_cons_zero,obs]
  rw[if_pos (by omega),l05Number_out,obs]
  have done:∀ p:Int×Int,prE x=p→((P.take (i+1)).map prE).map (·.1)=((P.take i).map prE).map (·.1)++[p.1]∧((P.take (i+1)).map prE).map (·.2)=((P.take i).map prE).map (·.2)++[p.2]:=fun p hp=>by
   rw[List.take_add_one,hx];simp[hp]
  cases t with
  |nil =>
   obtain⟨d1,d2⟩:=done (num6 a,num6 a) (by unfold prE;rw[e])
   rw[if_neg (by simp),rdP2_out _ _ _ _ _ _ _ hlt.1 hlt.2,obs]
   refine .inr ⟨hn,_,rfl,?_⟩
   simp only[d1,d2,w1 (show i<9223372036854775807 by omega)];rfl
  |cons b r =>
   obtain⟨d1,d2⟩:=done (num6 a,if b=[42] then -1 else num6 b) (by unfold prE;rw[e])
   rw[if_pos (by simp only[List.length_cons];omega),if_pos (by simp only[List.length_cons];omega)]
   simp only[Int.toNat_one,List.getElem?_cons_succ,List.getElem?_cons_zero,obs]
   rw[l05Number_out,obs]
   by_cases hb:b=[42]
   ·rw[if_pos hb] at d2
    rw[if_pos (by simp only[List.length_cons];omega),if_pos hb,rdP2_out _ _ _ _ _ _ _ hlt.1 hlt.2,obs]
    refine .inr ⟨hn,_,rfl,?_⟩
    simp only[d1,d2,w1 (show i<9223372036854775807 by omega),if_pos hb];rfl
   ·rw[if_neg hb] at d2
    rw[if_pos (by simp only[List.length_cons];omega),if_neg hb,rdP2_out _ _ _ _ _ _ _ hlt.1 hlt.2,obs]
    refine .inr ⟨hn,_,rfl,?_⟩
    simp only[d1,d2,w1 (show i<9223372036854775807 by omega),if_neg hb];rfl
 ·have hi:i=N:=by omega
  subst hi
  refine .inl ?_
  by_cases h1:(i:Int)<(P.length:Int)
  ·rw[if_pos h1]
   by_cases h8:(i:Int)<8
   ·rw[if_pos h8]
    have hs2:¬s.length>2:=fun hs=>by rw[if_pos hs] at hN;omega
    rw[if_neg (by omega)]
   ·rw[if_neg h8]
  ·rw[if_neg h1]
theorem zip_fst {α β:Type} (a:List α) (b:List β) (h:b.length=a.length):(a.zip b).map (·.1)=a∧(a.zip b).map (·.2)=b :=
 ⟨List.map_fst_zip (by omega),List.map_snd_zip (by omega)⟩
theorem readS_out (s:Str) (hs:s.length≤1048576):(∃ x,VS x∧tS x=s∧spec_ReadSpace s=some (x,true))∨((¬∃ x,VS x∧tS x=s)∧spec_ReadSpace s=some (([],[]),false)):=by
 unfold spec_ReadSpace
 by_cases h2:(s.length:Int)<2
 ·rw[if_pos h2]
  refine .inr ⟨?_,rfl⟩
  rintro⟨x,_,rfl⟩
  unfold tS at h2
  simp only[List.length_append,List.length_cons,List.length_nil] at h2
  omega
 ·have e1:IntKind.i64.wrap ((s.length:Int)-1)=((s.length-1:Nat):Int):=by rw[wrap_in (by omega) (by omega)];omega
  have e2:=subL_mid s 1 (s.length-1) (by omega) (by omega)
  rw[show (((1:Nat):Nat):Int)=1 from rfl] at e2
  rw[if_neg h2,e1,e2,obs]
  generalize hm:(s.take (s.length-1)).drop 1=m
  have hml:m.length≤1048576:=by rw[← hm,List.length_drop,List.length_take];omega
  have e44:=l05Split_out m 44 hml
  rw[show (((44:UInt8).toNat:Nat):Int)=44 from rfl] at e44
  have hsl:=spl_len 44 m
  obtain⟨N,hN,hNv,e3⟩:=rdLoop_out s (spl 44 m) (by omega) (fun x hx=>by have:=hsl.2 x hx;omega)
  rw[e44,obs,e3,obs]
  generalize ho:(((List.take N (spl 44 m)).map prE).map (·.1),((List.take N (spl 44 m)).map prE).map (·.2))=o
  have back:(∃ x,VS x∧tS x=s)→VS o∧tS o=s:=by
   rintro⟨x,hx,rfl⟩
   obtain⟨z1,z2,z3⟩:=hx.zip
   have hmx:m=Lib.join ((x.1.zip x.2).map tE) [44]:=by
    rw[← hm];unfold tS
    simp only[List.cons_append,List.length_cons,List.length_append,List.length_nil]
    rw[show ∀ j:Nat,j+(0+1)+1-1=(j+1) by omega,List.take_succ_cons,List.drop_succ_cons,List.drop_zero,List.take_left]
   have hz:=zip_fst x.1 x.2 hx.2.1
   have:o=x:=by
    rw[← ho]
    by_cases hx0:x.1.zip x.2=[]
    ·have hN0:N=0:=by rw[hNv,if_neg];rw[tS,hx0];simp[Lib.join_nil]
     rw[hx0] at hz
     rw[hN0]
     simp only[List.take_zero,List.map_nil] at hz ⊢
     exact Prod.ext hz.1 hz.2
    ·have hsp:spl 44 m=(x.1.zip x.2).map tE:=by
      rw[hmx]
      refine spl_join 44 _ (by simpa using hx0) (fun y hy=>?_)
      obtain⟨p,hp,rfl⟩:=List.mem_map.1 hy
      exact tE_ne (z3 p hp) 44 (by decide) (by decide) (by decide)
     have hlen:1≤(x.1.zip x.2).length:=by
      cases h:x.1.zip x.2 with
      |nil=>exact absurd h hx0
      |cons=>simp
     have htake:List.take N (spl 44 m)=spl 44 m:=List.take_of_length_le (by
      rw[hNv,hsp,List.length_map]
      have hl:(tS x).length>2:=by
       obtain⟨p,r,e⟩:=List.exists_cons_of_ne_nil hx0
       unfold tS
       rw[e,List.map_cons,Lib.join_cons]
       have h1:1≤(tE p).length:=by
        unfold tE
        have:Lib.itoa p.1≠[]:=by
         rw[itoa_nat (by have:=(z3 p (by rw[e];simp)).b;omega)]
         intro h0
         have:=(dec_len 20 p.1.toNat (by have:=(z3 p (by rw[e];simp)).b;omega)).1
         rw[h0] at this;simp at this
        rw[List.length_append]
        cases hh:Lib.itoa p.1 with
        |nil=>exact absurd hh this
        |cons=>simp only[List.length_cons];omega
       simp only[List.length_append,List.length_cons,List.length_nil];omega
      rw[if_pos hl];omega)
     have hid:((x.1.zip x.2).map tE).map prE=x.1.zip x.2:=by
      rw[List.map_map]
      conv=>rhs;rw[← List.map_id (x.1.zip x.2)]
      exact List.map_congr_left fun p hp=>prE_tE (z3 p hp)
     rw[htake,hsp]
     rw[hid]
     exact Prod.ext hz.1 hz.2
   rw[this];exact⟨hx,rfl⟩
  rcases sText_out o with ⟨hv,ht⟩ |⟨hv,ht⟩
  ·rw[ht,obs]
   by_cases he:tS o=s
   ·rw[if_neg (not_not_intro he)];exact .inl ⟨o,hv,he,rfl⟩
   ·rw[if_pos he];exact .inr ⟨fun h=>he (back h).2,rfl⟩
  ·rw[ht,obs]
   have he:¬([]:Str)=s:=by rintro rfl;simp at h2
   rw[if_pos he];exact .inr ⟨fun h=>hv (back h).1,rfl⟩
end Go.Proofs.TM
