import Derived.Test.YtfbolaoobodmoaaGreatSC
import Derived.Test.YtfbolaoobodmoaaGreatSA
namespace Go.Proofs.TM
open Go Go.Proofs
set_option maxHeartbeats 1000000
open Classical in
theorem l13Full_out {p:DPager} (hp:PagerV p):∃ p',spec_l13Full_o19 p=some p'∧PagerV p':=by
 have ha:=area_in hp
 unfold spec_l13Full_o19 spec_l13Full_o19_l1
 rw[first_out hp,obs]
 obtain⟨r,hr,hv⟩:=loop_ex (f:=fun s:DPager×Int=>spec_l13Full_o19_l1_b s.1 s.2) (fun r=>PagerV r) (p.2.1.1-areaK p-1).toNat (fun i st=>PagerV st.1∧st.1.2.1=p.2.1∧st.2=areaK p+1+i) (fun i st hi hs=>by
  obtain⟨g1,g2,g3⟩:=hs
  obtain⟨q,k⟩:=st
  simp only at g1 g2 g3
  subst g3
  simp only[spec_l13Full_o19_l1_b,g2]
  by_cases hlt:areaK p+1+(i:Int)<p.2.1.1
  ·rw[if_pos hlt,zero_out,obs,l12Set_out q _ _ g1.in1,obs]
   by_cases hs:SetV q (areaK p+1+i) zB
   ·rw[if_pos hs]
    simp only[outPgB,spec_l13Full_o19_p2,spec_l13Full_o19_p3,if_true,obs,Sum.elim_inl]
    have hk:areaK p=2+q.2.1.2.1:=by rw[g2];rfl
    exact .inr ⟨by omega,_,rfl,setP_valid q _ zB g1 (by omega) (by rw[g2];omega) zB_len hs,g2,by simp only;rw[wrap_in (by omega) (by omega)];omega⟩
   ·rw[if_neg hs]
    simp only[outPgB,spec_l13Full_o19_p2,Bool.false_eq_true,if_false,obs,Sum.elim_inr]
    exact .inl ⟨_,rfl,g1⟩
  ·rw[if_neg hlt]
   simp only[spec_l13Full_o19_p2,Bool.false_eq_true,if_false,obs,Sum.elim_inr]
   exact .inl ⟨_,rfl,g1⟩) (p.2.1.1-areaK p-1).toNat 0 (p,areaK p+1) (by omega) ⟨hp,rfl,by simp⟩
 rw[hr,obs]
 exact⟨_,rfl,hv⟩
open Classical in
theorem DrawAllocate_out (c:List Bt):∃ p n,spec_DrawAllocate c=some (p,n)∧PagerIn p 1048576:=by
 unfold spec_DrawAllocate spec_l00From
 rw[obs]
 obtain⟨a,s,p,e,l,hp⟩:=l13Bent_out c 0 0 12 (by omega) (by omega)
 simp only
 rw[e,obs]
 simp only
 obtain⟨a1,s1,v1,e1,l1⟩:=one_out c a s 9 (by omega) (by omega)
 rw[e1,obs]
 simp only
 have fin:∀ q:DPager,PagerIn q 1048576→∃ n,(spec_DrawAllocate_p1 0 false 0 0 0 0 0 0 c a1 s1 q)=some (q,n):=fun q hq=>by
  unfold spec_DrawAllocate_p1
  obtain⟨a2,s2,x2,e2,_⟩:=among_out c a1 s1 (lit [1,2,3,4,6,9,25,60,0,-1,256,257]) (by simp[lit]) (by omega) (by omega)
  rw[e2,obs,if_pos rfl]
  exact⟨_,rfl⟩
 split
 ·simp only[l12Ok_out p hp,obs,deq]
  by_cases hv:PagerV p
  ·rw[if_pos hv]
   obtain⟨p',e3,hv'⟩:=l13Full_out hv
   obtain⟨n,e4⟩:=fin p' hv'.in1
   rw[e3,obs,e4,obs]
   exact⟨p',n,rfl,hv'.in1⟩
  ·rw[if_neg hv]
   obtain⟨n,e4⟩:=fin p hp
   rw[e4,obs]
   exact⟨p,n,rfl,hp⟩
 ·obtain⟨n,e4⟩:=fin p hp
  rw[e4,obs]
  exact⟨p,n,rfl,hp⟩
theorem pgF_setL (k:Int) (d:Str) (j:Int):∀ l:List (Int×Str),pgF (setL l k d) j=if k=j then some (k,d) else pgF l j
 |[]=>by
  simp only[setL,pgF,List.find?_cons,List.find?_nil]
  by_cases h:k=j
  ·simp[h]
  ·simp[h]
 |x::l=>by
  have ih:=pgF_setL k d j l
  simp only[pgF] at ih ⊢
  simp only[setL]
  split
  ·rw[List.find?_cons,List.find?_cons,ih]
   by_cases hx:x.1=j
   ·have hkj:¬k=j:=by omega
    simp[hx,hkj]
   ·simp[hx]
  ·split
   ·rename_i h1 h2
    rw[List.find?_cons,List.find?_cons]
    by_cases h:k=j
    ·simp[h]
    ·have:¬x.1=j:=by omega
     simp[h,this]
   ·rw[List.find?_cons]
    by_cases h:k=j
    ·simp[h]
    ·simp[h]
theorem getP_setP (p:DPager) (k:Int) (d:Str) (j:Int):getP (setP p k d) j=if k=j then d else getP p j:=by
 unfold getP
 rw[show (setP p k d).2.2.2.2.2=setL p.2.2.2.2.2 k d from rfl,pgF_setL]
 by_cases h:k=j
 ·simp[h]
 ·simp only[h,if_false];rfl
theorem setL_again (k:Int) (d e:Str):∀ l:List (Int×Str),(setL (setL l k d) k e).length=(setL l k d).length
 |[]=>by simp[setL]
 |x::l=>by
  simp only[setL]
  split
  ·rename_i h
   simp only[setL,if_pos h,List.length_cons,setL_again k d e l]
  ·split
   ·simp[setL]
   ·simp[setL]
theorem areaK_setP (p:DPager) (k:Int) (d:Str):areaK (setP p k d)=areaK p:=rfl
theorem areaP_setP (p:DPager) (d:Str):areaP (setP p (areaK p) d)=d:=by
 unfold areaP
 rw[areaK_setP,getP_setP,if_pos rfl]
theorem u8w {n:Nat} (h:n<256):IntKind.u8.wrap (n:Int)=n:=by simp[IntKind.wrap,IntKind.bits,IntKind.signed];omega
theorem shr_u8 (n j:Nat) (hj:j<8):shrV .u8 (n:Int) (j:Int)=((n / 2 ^ j:Nat):Int):=by
 unfold shrV
 rw[show min ((j:Int)).toNat IntKind.u8.bits=j by show min ((j:Int)).toNat 8=j;omega,Int.fdiv_eq_ediv_of_nonneg _ (Int.le_of_lt (Int.pow_pos (by decide)))]
 rw[Int.natCast_ediv];simp
theorem shl_u8 (j:Nat) (hj:j<8):shlV .u8 1 (j:Int)=((2 ^ j:Nat):Int):=by
 unfold shlV
 rw[show min ((j:Int)).toNat IntKind.u8.bits=j by show min ((j:Int)).toNat 8=j;omega]
 have:(2 ^ j:Nat)<256:=by
  have:=Nat.pow_lt_pow_right (a:=2) (by decide) hj
  simpa using this
 rw[show (1:Int)*2 ^ j=((2 ^ j:Nat):Int) by simp,u8w this]
theorem and_u8 (n m:Nat) (hn:n<256) (hm:m<256):bitV .and .u8 (n:Int) (m:Int)=((n &&& m:Nat):Int):=by
 have e:bitV .and .u8 (n:Int) (m:Int)=IntKind.u8.wrap (((BitVec.ofInt 8 n) &&& (BitVec.ofInt 8 m)).toNat:Int):=rfl
 have h:n &&& m<256:=Nat.lt_of_le_of_lt Nat.and_le_left hn
 rw[e,BitVec.toNat_and]
 simp only[BitVec.toNat_ofInt]
 rw[show (((n:Int) % ((2 ^ 8:Nat):Int)).toNat)=n by omega,show (((m:Int) % ((2 ^ 8:Nat):Int)).toNat)=m by omega,u8w h]
theorem or_u8 (n m:Nat) (hn:n<256) (hm:m<256):bitV .or .u8 (n:Int) (m:Int)=((n |||m:Nat):Int)∧n |||m<256:=by
 have e:bitV .or .u8 (n:Int) (m:Int)=IntKind.u8.wrap (((BitVec.ofInt 8 n) |||(BitVec.ofInt 8 m)).toNat:Int):=rfl
 have h:n |||m<256:=Nat.or_lt_two_pow (n:=8) hn hm
 refine⟨?_,h⟩
 rw[e,BitVec.toNat_or]
 simp only[BitVec.toNat_ofInt]
 rw[show (((n:Int) % ((2 ^ 8:Nat):Int)).toNat)=n by omega,show (((m:Int) % ((2 ^ 8:Nat):Int)).toNat)=m by omega,u8w h]
theorem andNot_u8 (n m:Nat) (hn:n<256) (hm:m<256):∃ r:Nat,bitV .andNot .u8 (n:Int) (m:Int)=(r:Int)∧r<256∧∀ j,j<8→r.testBit j=(n.testBit j&&!m.testBit j):=by
 have e:bitV .andNot .u8 (n:Int) (m:Int)=IntKind.u8.wrap (((BitVec.ofInt 8 n) &&& ~~~(BitVec.ofInt 8 m)).toNat:Int):=rfl
 refine⟨((BitVec.ofInt 8 n) &&& ~~~(BitVec.ofInt 8 m)).toNat,?_,?_,fun j hj=>?_⟩
 ·rw[e,u8w];exact ((BitVec.ofInt 8 n) &&& ~~~(BitVec.ofInt 8 m)).isLt
 ·exact ((BitVec.ofInt 8 n) &&& ~~~(BitVec.ofInt 8 m)).isLt
 ·rw[BitVec.testBit_toNat,BitVec.getLsbD_and,BitVec.getLsbD_not,← BitVec.testBit_toNat,← BitVec.testBit_toNat,BitVec.toNat_ofInt,BitVec.toNat_ofInt]
  rw[show (((n:Int) % ((2 ^ 8:Nat):Int)).toNat)=n by omega,show (((m:Int) % ((2 ^ 8:Nat):Int)).toNat)=m by omega]
  simp[hj]
theorem bit_u8 (n j:Nat) (hn:n<256) (hj:j<8):decide (bitV .and .u8 (shrV .u8 (n:Int) (j:Int)) 1=1)=n.testBit j:=by
 rw[shr_u8 n j hj]
 have h1:n / 2 ^ j<256:=Nat.lt_of_le_of_lt (Nat.div_le_self _ _) hn
 have h2:=and_u8 (n / 2 ^ j) 1 h1 (by decide)
 rw[show ((1:Nat):Int)=1 from rfl] at h2
 rw[h2,Nat.testBit_eq_decide_div_mod_eq,Nat.and_one_is_mod]
 by_cases h:n / 2 ^ j % 2=1
 ·rw[h];simp
 ·simp only[h,decide_false,decide_eq_false_iff_not]
  omega
theorem bitP_eq (s:Str) (k:Int) (h0:0≤k) (h1:k≤300):bitP s k=(s.getD (4+k / 8).toNat 0).toNat.testBit (k % 8).toNat:=by
 unfold bitP
 rw[Int.tdiv_eq_ediv_of_nonneg h0,Int.tmod_eq_emod_of_nonneg h0]
 have:=bit_u8 (s.getD (4+k / 8).toNat 0).toNat (k % 8).toNat (s.getD (4+k / 8).toNat 0).toNat_lt (by omega)
 rw[← this,show (((k % 8).toNat:Nat):Int)=k % 8 by omega]
theorem mkStep_bit (set:Bool) (l:List Bt) (k j:Int) (hl:l.length=64) (h0:0≤k) (h1:k≤300) (g0:0≤j) (g1:j≤300):bitP ((mkStep set l k).map Bt.v) j=if j=k then set else bitP (l.map Bt.v) j:=by
 rw[bitP_eq _ j g0 g1,bitP_eq _ j g0 g1]
 unfold mkStep
 rw[Int.tdiv_eq_ediv_of_nonneg h0,Int.tmod_eq_emod_of_nonneg h0]
 obtain⟨x,hx⟩:=get_at (l:=l) (i:=(4+k / 8).toNat) (by omega)
 have hg:(l.getD (4+k / 8).toNat ⟨0⟩)=x:=by rw[List.getD_eq_getElem?_getD,hx];rfl
 rw[hg]
 obtain⟨c,hc⟩:∃ c:Nat,k % 8=c:=⟨(k % 8).toNat,by omega⟩
 have hc8:c<8:=by omega
 have hp2:(2 ^ c:Nat)<256:=by
  have:=Nat.pow_lt_pow_right (a:=2) (by decide) hc8
  simpa using this
 have hx8:=x.v.toNat_lt
 -- the new byte
 obtain⟨r,hr,hr8,hrb⟩:∃ r:Nat,(if set=true then bitV .or .u8 ((x.v.toNat:Nat):Int) (shlV .u8 1 (k % 8)) else bitV .andNot .u8 ((x.v.toNat:Nat):Int) (shlV .u8 1 (k % 8)))=(r:Int)∧r<256∧∀ i,i<8→r.testBit i=if i=c then set else x.v.toNat.testBit i:=by
  rw[hc,shl_u8 c hc8]
  cases set with
  |true =>
   obtain⟨e1,e2⟩:=or_u8 x.v.toNat (2 ^ c) hx8 hp2
   refine⟨_,by rw[if_pos rfl,e1],e2,fun i hi=>?_⟩
   rw[Nat.testBit_or,Nat.testBit_two_pow]
   by_cases hic:i=c
   ·simp[hic]
   ·simp[hic,Ne.symm hic]
  |false =>
   obtain⟨r,e1,e2,e3⟩:=andNot_u8 x.v.toNat (2 ^ c) hx8 hp2
   refine⟨r,by rw[if_neg (by decide),e1],e2,fun i hi=>?_⟩
   rw[e3 i hi,Nat.testBit_two_pow]
   by_cases hic:i=c
   ·simp[hic]
   ·simp[hic,Ne.symm hic]
 rw[hr]
 simp only[Int.toNat_natCast,List.map_set]
 by_cases hbl:(4+j / 8).toNat=(4+k / 8).toNat
 ·rw[hbl,List.getD_eq_getElem?_getD,List.getElem?_set_self (by rw[List.length_map];omega),List.getD_eq_getElem?_getD,List.getElem?_map,hx]
  simp only[Option.getD_some,Option.map_some]
  rw[UInt8.toNat_ofNat',Nat.mod_eq_of_lt (by omega),hrb _ (by omega)]
  by_cases hjk:j=k
  ·rw[if_pos hjk,if_pos (by omega)]
  ·rw[if_neg hjk,if_neg (by omega)]
 ·rw[List.getD_eq_getElem?_getD,List.getElem?_set_ne (by omega),← List.getD_eq_getElem?_getD,if_neg (by intro h;subst h;exact hbl rfl)]
theorem markL_bit (s:Str) (k:Int) (set:Bool) (hs:s.length=64) (h0:0≤k) (j:Int) (g0:0≤j) (g1:j≤300):∀ i:Nat,k+i≤300→bitP ((markL s k set i).map Bt.v) j=if k≤j∧j<k+i then set else bitP s j
 |0,_=>by
  rw[if_neg (by omega)]
  simp only[markL]
  rw[map_v]
 |i+1,hi=>by
  simp only[markL]
  rw[mkStep_bit set _ _ j (by rw[markL_len];exact hs) (by omega) (by omega) g0 g1,markL_bit s k set hs h0 j g0 g1 i (by omega)]
  by_cases h1:j=k+i
  ·rw[if_pos h1,if_pos (by omega)]
  ·rw[if_neg h1]
   by_cases h2:k≤j∧j<k+i
   ·rw[if_pos h2,if_pos (by omega)]
   ·rw[if_neg h2,if_neg (by omega)]
theorem markP_bit (s:Str) (k n:Int) (set:Bool) (hs:s.length=64) (h0:0≤k) (hn:0≤n) (h:k+n≤300) (j:Int) (g0:0≤j) (g1:j≤300):bitP (markP s k n set) j=if k≤j∧j<k+n then set else bitP s j:=by
 unfold markP
 rw[markL_bit s k set hs h0 j g0 g1 n.toNat (by omega)]
 rw[show (k+((n.toNat:Nat):Int))=k+n by omega]
open Classical in
noncomputable def alP (p:DPager) (k:Int):Bool:=if areaK p<k∧k<(p.1.1.length:Int) then bitP (areaP p) k else false
theorem isAl_out (p:DPager) (hp:PagerV p) (k:Int):impl_IsAllocated p k=some (alP p k):=by
 unfold impl_IsAllocated alP
 rw[ValidPager_out p hp.in1,obs,if_pos (by simpa using hp)]
 by_cases h:areaK p<k∧k<(p.1.1.length:Int)
 ·rw[if_pos h,allocated_out p hp hp.in1 k h.1 h.2,obs]
 ·rw[if_neg h]
  unfold impl_Pager_allocated
  rw[isData_out p hp k 1 (by omega) (by omega),obs,if_neg (by simp only[decide_eq_true_eq];omega)]
  rfl
theorem cntF_mark' (bit bit':Int→Bool) (k0 k n:Int) (h0:k0≤k) (hn:0≤n) (h1:∀ j,k0≤j→j≤300→bit' j=if k≤j∧j<k+n then true else bit j) (h2:∀ j,k≤j→j<k+n→bit j=false):∀ i:Nat,k0+i≤300→cntF bit k0 i-cntF bit' k0 i=max 0 (min (k0+i) (k+n)-k)
 |0,_=>by simp only[cntF];omega
 |i+1,hi=>by
  have ih:=cntF_mark' bit bit' k0 k n h0 hn h1 h2 i (by omega)
  simp only[cntF]
  rw[h1 (k0+i) (by omega) (by omega)]
  by_cases h:k≤k0+(i:Int)∧k0+(i:Int)<k+n
  ·rw[if_pos h,h2 _ h.1 h.2]
   simp only[Bool.false_eq_true,if_false,if_true]
   omega
  ·rw[if_neg h]
   omega
theorem sp_p2 (p x:DPager) (n at_ k:Int) (b:Bool) (hp:PagerV p) (hx:PagerV x) (h1:b=true→alP p k=false∧alP x k=true) (h2:b=false→alP x k=alP p k) :
  laws_FnSpace_p2 p n x at_ k b=some (.inr (p,n,x,at_,k)):=by
 unfold laws_FnSpace_p2
 rw[isAl_out p hp,isAl_out x hx]
 cases b with
 |true =>
  obtain⟨a,c⟩:=h1 rfl
  simp[a,c]
 |false =>
  simp[h2 rfl]
abbrev xA (p:DPager) (k n:Int):DPager:=setP p (areaK p) (markP (areaP p) k n true)
theorem spaceLaw {p:DPager} (hp:PagerV p) {n:Int} (h1:1≤n) (h2:n≤256) (hz:¬(bestP (runsP p) n).2=0) (hs:AllV p n) :
  PagerV (allP p n)∧(∀ k,(bestP (runsP p) n).1≤k→k<(bestP (runsP p) n).1+n→alP p k=false∧alP (allP p n) k=true)∧(∀ k,¬((bestP (runsP p) n).1≤k∧k<(bestP (runsP p) n).1+n)→alP (allP p n) k=alP p k) ∧
  smW (runsP p)-n=smW (runsP (allP p n))∧∃ y,outRe (allP p n) (bestP (runsP p) n).1 n=outPg y 0∧PagerV y∧∀ k,alP p k=alP y k:=by
 have ha:=area_in hp
 have hl:=areaP_len hp
 have hbd:=best_bd hp hz
 obtain⟨q1,q2,q3⟩:=runsP_q hp
 have hmem:bestP (runsP p) n∈runsP p∧n≤(bestP (runsP p) n).2:=by
  rcases bestP_cases (runsP p) n with h |h
  ·rw[h] at hz;exact absurd rfl hz
  ·exact h
 obtain⟨b1,b2,b3,b4⟩:=q1 _ hmem.1
 have hfree:∀ j,(bestP (runsP p) n).1≤j→j<(bestP (runsP p) n).1+n→bitP (areaP p) j=false:=fun j u v=>b4 j u (by omega)
 unfold AllV at hs
 rw[show allP p n=xA p (bestP (runsP p) n).1 n from rfl]
 generalize (bestP (runsP p) n).1=k at *
 have hml:(markP (areaP p) k n true).length=64:=by rw[markP_len];exact hl
 have hx:PagerV (xA p k n):=setP_valid p _ _ hp (by show areaK p≤areaK p;omega) (by omega) hml hs
 have hbit:∀ j,0≤j→j≤300→bitP (markP (areaP p) k n true) j=if k≤j∧j<k+n then true else bitP (areaP p) j:=fun j u v=>markP_bit (areaP p) k n true hl (by omega) (by omega) (by omega) j u v
 have hA:=areaP_setP p (markP (areaP p) k n true)
 have hK:=areaK_setP p (areaK p) (markP (areaP p) k n true)
 have hD:(xA p k n).1=p.1:=rfl
 have hal:∀ j,alP (xA p k n) j=if k≤j∧j<k+n then true else alP p j:=fun j=>by
  unfold alP
  rw[hA,hK,hD]
  by_cases hj:areaK p<j∧j<(p.1.1.length:Int)
  ·rw[if_pos hj,if_pos hj,hbit j (by omega) (by omega)]
  ·rw[if_neg hj,if_neg hj,if_neg (by omega)]
 have halp:∀ j,k≤j→j<k+n→alP p j=false:=fun j u v=>by
  unfold alP
  rw[if_pos (by omega),hfree j u v]
 refine⟨hx,fun j u v=>⟨halp j u v,by rw[hal,if_pos ⟨u,v⟩]⟩,fun j u=>by rw[hal,if_neg u],?_,?_⟩
 ·obtain⟨_,_,q3'⟩:=runsP_q hx
  rw[q3,q3',hA,hK,hD]
  have:=cntF_mark' (bitP (areaP p)) (bitP (markP (areaP p) k n true)) (areaK p+1) k n (by omega) (by omega) (fun j u v=>hbit j (by omega) (by omega)) hfree (p.1.1.length-1-(areaK p).toNat) (by omega)
  omega
 ·have hml2:(markP (markP (areaP p) k n true) k n false).length=64:=by rw[markP_len];exact hml
  have hS:SetV (xA p k n) (areaK p) (markP (markP (areaP p) k n true) k n false):=by
   unfold SetV at hs ⊢
   rw[show (xA p k n).2.2.2.2.2=setL p.2.2.2.2.2 (areaK p) (markP (areaP p) k n true) from rfl,setL_again]
   exact hs
  have hB:AllBit (xA p k n) k n:=fun j hj=>by
   rw[hA,hbit _ (by omega) (by omega),if_pos (by omega)]
  refine⟨setP (xA p k n) (areaK p) (markP (markP (areaP p) k n true) k n false),?_,setP_valid _ _ _ hx (by show areaK p≤areaK p;omega) (by show areaK p≤p.2.1.1-1;omega) hml2 hS,fun j=>?_⟩
  ·unfold outRe
   rw[if_pos hx,if_pos (by rw[hK,hD];omega),if_pos hB,hK,hA,if_pos hS]
  ·have hA2:=areaP_setP (xA p k n) (markP (markP (areaP p) k n true) k n false)
   rw[hK] at hA2
   unfold alP
   rw[hA2,show areaK (setP (xA p k n) (areaK p) (markP (markP (areaP p) k n true) k n false))=areaK p from rfl,show (setP (xA p k n) (areaK p) (markP (markP (areaP p) k n true) k n false)).1=p.1 from rfl]
   by_cases hj:areaK p<j∧j<(p.1.1.length:Int)
   ·rw[if_pos hj,if_pos hj,markP_bit _ k n false hml (by omega) (by omega) (by omega) j (by omega) (by omega),hbit j (by omega) (by omega)]
    by_cases hi:k≤j∧j<k+n
    ·rw[if_pos hi,hfree j hi.1 hi.2]
    ·rw[if_neg hi,if_neg hi]
   ·rw[if_neg hj,if_neg hj]
open Classical in
theorem FnSpace_true (code:List Bt) (h:Gd.ok code):laws_FnSpace code=some true:=by
 unfold laws_FnSpace laws_b10Long
 simp only[obs,decide_eq_true_eq]
 by_cases c1:(code.length:Int)>1048576
 ·rw[if_pos c1]
 rw[if_neg c1]
 obtain⟨p,n,hd,hin⟩:=DrawAllocate_out code
 rw[hd,obs]
 simp only
 rw[impl_Allocate_out p n hin,obs]
 by_cases hc:(outAl p n).2.2=0
 case neg=>rw[if_pos hc]
 rw[if_neg (by simpa using hc)]
 have hcond:PagerV p∧(1≤n∧n≤256)∧¬(bestP (runsP p) n).2=0∧AllV p n∧outAl p n=outPg2 (allP p n) (bestP (runsP p) n).1 0:=by
  unfold outAl at hc ⊢
  by_cases hp:PagerV p
  case neg=>rw[if_neg hp] at hc;simp[outPg2] at hc
  rw[if_pos hp] at hc ⊢
  by_cases hn:1≤n∧n≤256
  case neg=>rw[if_neg hn] at hc;simp[outPg2] at hc
  rw[if_pos hn] at hc ⊢
  by_cases hz:(bestP (runsP p) n).2=0
  ·rw[if_pos hz] at hc;simp[outPg2] at hc
  rw[if_neg hz] at hc ⊢
  by_cases hs:AllV p n
  case neg=>rw[if_neg hs] at hc;simp[outPg2] at hc
  exact⟨hp,hn,hz,hs,by rw[if_pos hs]⟩
 obtain⟨hp,hn,hz,hs,ho⟩:=hcond
 rw[ho]
 obtain⟨hx,g1,g2,g3,y,g4,hy,g5⟩:=spaceLaw hp hn.1 hn.2 hz hs
 have ha:=area_in hp
 have hbd:=best_bd hp hz
 generalize hk:(bestP (runsP p) n).1=k at *
 generalize allP p n=x at *
 simp only[outPg2]
 have l1:laws_FnSpace_l1 (p,n,x,k,0)=some (.inl (p,n,x,k)):=by
  unfold laws_FnSpace_l1
  refine loop_some (f:=fun s=>laws_FnSpace_l1_b s.1 s.2.1 s.2.2.1 s.2.2.2.1 s.2.2.2.2) p.2.1.1.toNat (fun i st=>st=(p,n,x,k,(i:Int))) (fun i st hi hst=>?_) p.2.1.1.toNat 0 _ (by omega) rfl
  subst hst
  simp only[laws_FnSpace_l1_b]
  by_cases hlt:(i:Int)<p.2.1.1
  case neg=>rw[if_neg hlt];exact .inl rfl
  rw[if_pos hlt,wrap_in (n:=k+n) (by omega) (by omega)]
  have w:IntKind.i64.wrap ((i:Int)+1)=((i+1:Nat):Int):=by rw[w1 (by omega)];omega
  right
  refine⟨by omega,_,?_,rfl⟩
  by_cases hge:(i:Int)≥k
  ·rw[if_pos hge,sp_p2 p x n k i _ hp hx (fun e=>g1 i hge (by simpa using e)) (fun e=>g2 i (fun q=>by have:=q.2;simp only[decide_eq_false_iff_not] at e;exact e this)),obs]
   simp only[Sum.elim_inr,w]
  ·rw[if_neg hge,sp_p2 p x n k i false hp hx (fun e=>by cases e) (fun e=>g2 i (fun q=>hge q.1)),obs]
   simp only[Sum.elim_inr,w]
 rw[l1,obs]
 simp only[Sum.elim_inl]
 obtain⟨z1,z2⟩:=runsP_lim hp
 have hbd2:=smW_bd 256 (by omega) _ z2
 rw[impl_Release_out x k n hx.in1,g4,obs,count_out hp,count_out hx,obs,obs,wrap_in (n:=smW (runsP p)-n) (by omega) (by omega),if_neg (by simpa using g3),if_neg (by simp[outPg])]
 have l3:laws_FnSpace_l3 p y 0=some (.inl ()):=by
  unfold laws_FnSpace_l3
  refine loop_some (f:=fun s=>laws_FnSpace_l3_b p y s) p.2.1.1.toNat (fun i st=>st=(i:Int)) (fun i st hi hst=>?_) p.2.1.1.toNat 0 _ (by omega) rfl
  subst hst
  simp only[laws_FnSpace_l3_b]
  by_cases hlt:(i:Int)<p.2.1.1
  case neg=>rw[if_neg hlt];exact .inl rfl
  rw[if_pos hlt,isAl_out p hp,isAl_out y hy,obs,obs,g5 i,w1 (by omega),if_neg (by simp)]
  exact .inr ⟨by omega,_,rfl,by omega⟩
 simp only[outPg]
 rw[l3,obs]
 rfl
end Go.Proofs.TM
