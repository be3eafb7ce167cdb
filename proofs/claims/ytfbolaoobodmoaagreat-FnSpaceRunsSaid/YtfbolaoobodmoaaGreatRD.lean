import Derived.Test.YtfbolaoobodmoaaGreatRA
import Derived.Test.YtfbolaoobodmoaaGreatRB
import Derived.Test.YtfbolaoobodmoaaGreatRC
namespace Go.Proofs.TM
open Go Go.Proofs
set_option maxHeartbeats 1000000
theorem pgF_setL (k:Int) (d:Str) (j:Int):∀ l:List (Int×Str),pgF (setL l k d) j=if k=j then some (k,d) else pgF l j
 |[]=>by
  simp only[setL,pgF,List.find?_cons,List.find?_nil]
  by_cases h:k=j
  ·simp[h]
  ·simp[h]
 |x::l=>by
  have ih:=pgF_setL k d j l
  simp only[pgF] at ih ⊢
  simp only[setL]
  split
  ·rw[List.find?_cons,List.find?_cons,ih]
   by_cases hx:x.1=j
   ·have hkj:¬k=j:=by omega
    simp[hx,hkj]
   ·simp[hx]
  ·split
   ·rename_i h1 h2
    rw[List.find?_cons,List.find?_cons]
    by_cases h:k=j
    ·simp[h]
    ·have:¬x.1=j:=by omega
     simp[h,this]
   ·rw[List.find?_cons]
    by_cases h:k=j
    ·simp[h]
    ·simp[h]
theorem getP_setP (p:DPager) (k:Int) (d:Str) (j:Int):getP (setP p k d) j=if k=j then d else getP p j:=by
 unfold getP
 rw[show (setP p k d).2.2.2.2.2=setL p.2.2.2.2.2 k d from rfl,pgF_setL]
 by_cases h:k=j
 ·simp[h]
 ·simp only[h,if_false];rfl
theorem happ16s (l:List Str) (x:Str) (h:l.length≤100000):appL 16 l (lit [x])=some (l++[x]):=by unfold appL lit;rw[if_pos (by simp[maxRow];omega)]
def blkD (s:Str) (i:Nat):Str:=(s.drop (64*i)).take 64
theorem blkD_len (s:Str) (i:Nat) (h:64*(i+1)≤s.length):(blkD s i).length=64:=by simp[blkD];omega
theorem blocksOf_out (s:Str) (n:Nat) (h:s.length=64*n) (hn:n≤2000):impl_blocksOf s=some ((List.range n).map (blkD s)):=by
 unfold impl_blocksOf impl_blocksOf_l1
 obtain⟨r,hr,rfl⟩:=loop_meas (f:=fun st=>impl_blocksOf_l1_b st.1 st.2) (fun r=>r=(List.range n).map (blkD s)) (fun st=>st.1.length) (fun st=>∃ i,i≤n∧st=(s.drop (64*i),(List.range i).map (blkD s)))
  (fun st hs=>by
   obtain⟨i,hi,rfl⟩:=hs
   simp only[impl_blocksOf_l1_b]
   by_cases hlt:i < n
   ·have hne:¬(s.drop (64*i)=([]:Str)):=by
     intro hh
     have:=congrArg List.length hh
     simp at this;omega
    have h1:subL (s.drop (64*i)) none (some 64)=some ((s.drop (64*i)).take 64):=subL_to _ 64 (by simp;omega)
    have h2:subL (s.drop (64*i)) (some 64) none=some ((s.drop (64*i)).drop 64):=subL_from _ 64 (by simp;omega)
    rw[if_pos hne,h1,obs,happ16s _ _ (by simp;omega),obs,h2,obs]
    refine .inr ⟨_,rfl,⟨i+1,by omega,?_⟩,by simp;omega⟩
    rw[List.drop_drop,List.range_succ,List.map_append,show 64*i+64=64*(i+1) by omega];rfl
   ·have:i=n:=by omega
    subst this
    have he:s.drop (64*i)=([]:Str):=List.drop_eq_nil_of_le (by omega)
    rw[if_neg (by simpa using he)]
    exact .inl ⟨_,rfl,rfl⟩) _ (s,[]) rfl ⟨0,Nat.zero_le _,by simp⟩
 rw[hr,obs]
def nB (s:Str):Nat:=max 1 ((s.length+63) / 64)
def padD (s:Str):Str:=s++List.replicate (nB s*64 - s.length) 0
theorem nB_ge (s:Str):s.length≤nB s*64:=by unfold nB;omega
theorem padD_len (s:Str):(padD s).length=64*nB s:=by have:=nB_ge s;simp[padD];omega
theorem iblocksFor_out (s:Str) (h:s.length≤1048576):impl_blocksFor (s.length:Int)=some (nB s:Int):=by
 unfold impl_blocksFor nB
 rw[wrap_in (n:=(s.length:Int)+64) (by omega) (by omega),wrap_in (n:=(s.length:Int)+64 - 1) (by omega) (by omega),Int.tdiv_eq_ediv_of_nonneg (by omega),wrap_in (by omega) (by omega)]
 congr 1
 omega
noncomputable def setsP (p:DPager) (k:Int) (d:Str):Nat→Option DPager
 |0=>some p
 |i+1=>(setsP p k d i).bind fun q=>@ite _ (SetV q (k+i) (blkD d i)) (Classical.propDecidable _) (some (setP q (k+i) (blkD d i))) none
def Sets (p:DPager) (k:Int) (d:Str) (i:Nat) (q:DPager):Prop:=setsP p k d i=some q∧PagerV q∧q.1=p.1∧q.2.1=p.2.1∧∀ j:Nat,j < i→getP q (k+j)=blkD d j
theorem sets_loopG (p:DPager) (k:Int) (d:Str) (n:Nat) (hp:PagerV p) (hk:areaK p < k) (hkn:k+n≤(p.1.1.length:Int)) (hd:d.length=64*n) (f:DPager×Int→Option ((DPager×Int) ⊕ (DPager ⊕ (DPager×Int))))
  (h1:∀ (q:DPager) (i:Nat),PagerV q→i < n→f (q,(i:Int))=some (@ite _ (SetV q (k+i) (blkD d i)) (Classical.propDecidable _) (.inl (setP q (k+i) (blkD d i),(i:Int)+1)) (.inr (.inr (q,5)))))
  (h2:∀ q:DPager,f (q,(n:Int))=some (.inr (.inl q))) :
  ∃ r,loopO f (p,0)=some r∧((∃ q,Sets p k d n q∧r=.inl q)∨(setsP p k d n=none∧∃ q,r=.inr (q,5))):=by
 have hnone:∀ i m,setsP p k d i=none→setsP p k d (i+m)=none:=fun i m hh=>by
  induction m with
  |zero=>exact hh
  |succ m ih=>show (setsP p k d (i+m)).bind _=none;rw[ih];rfl
 refine loop_ex (f:=f) (fun r=>(∃ q,Sets p k d n q∧r=.inl q)∨(setsP p k d n=none∧∃ q,r=.inr (q,5))) n
  (fun i s=>∃ q,s=(q,(i:Int))∧Sets p k d i q) (fun i s hi hs=>?_) n 0 _ (by omega) ⟨p,rfl,rfl,hp,rfl,rfl,fun j hj=>by omega⟩
 obtain⟨q,rfl,hq,hv,e1,e2,e3⟩:=hs
 by_cases hlt:i < n
 ·rw[h1 q i hv hlt]
  by_cases hset:SetV q (k+i) (blkD d i)
  ·rw[if_pos hset]
   refine .inr ⟨hlt,_,rfl,setP q (k+i) (blkD d i),?_,?_,?_,e1,e2,fun j hj=>?_⟩
   ·rw[show ((i+1:Nat):Int)=(i:Int)+1 by omega]
   ·show (setsP p k d i).bind _=_
    rw[hq,obs,if_pos hset]
   ·have ha:=area_in hp
    refine setP_valid q _ _ hv ?_ ?_ (blkD_len d i (by omega)) hset
    ·rw[e2];unfold areaK at hk;omega
    ·rw[e2];omega
   ·rw[getP_setP]
    by_cases hji:j=i
    ·subst hji;rw[if_pos rfl]
    ·rw[if_neg (by omega)];exact e3 j (by omega)
  ·rw[if_neg hset]
   refine .inl ⟨_,rfl,.inr ⟨?_,q,rfl⟩⟩
   have hi1:setsP p k d (i+1)=none:=by
    show (setsP p k d i).bind _=none
    rw[hq,obs,if_neg hset]
   have:=hnone (i+1) (n - (i+1)) hi1
   rwa [show i+1+(n - (i+1))=n by omega] at this
 ·have:i=n:=by omega
  subst this
  rw[h2 q]
  exact .inl ⟨_,rfl,.inl ⟨q,⟨hq,hv,e1,e2,e3⟩,rfl⟩⟩
open Classical in
theorem impl_WriteRun_out (p:DPager) (k:Int) (d:Str) (hin:PagerIn p 1048576) (hd:d.length≤1048576):∃ o,impl_WriteRun p k d=some o∧(o.2=0→PagerV p∧d.length≤65536∧areaK p < k∧k≤(p.1.1.length:Int) - nB d∧Sets p k (padD d) (nB d) o.1):=by
 unfold impl_WriteRun
 simp only[ValidPager_out p hin,obs,deq]
 by_cases h:PagerV p
 case neg=>rw[if_pos (by simpa using h)];exact⟨_,rfl,fun q=>by simp at q⟩
 have ha:=area_in h
 have hnb:1≤nB d∧nB d≤20000:=by unfold nB;omega
 rw[if_neg (by simpa using h)]
 have hrun:impl_Pager_isRun p k (d.length:Int)=some (decide (d.length≤65536∧areaK p < k∧k≤(p.1.1.length:Int) - nB d)):=by
  unfold impl_Pager_isRun impl_within
  by_cases hl:d.length≤65536
  ·have h1:(d.length:Int) ≥ 0:=by omega
   have h2:(d.length:Int)≤65536:=by omega
   simp only[h1,h2,if_true,obs,decide_true]
   rw[iblocksFor_out d hd,obs,isData_out p h k _ (by omega) (by omega),obs]
   simp[hl]
  ·have h1:(d.length:Int) ≥ 0:=by omega
   have h2:¬(d.length:Int)≤65536:=by omega
   simp[h1,h2,hl]
 rw[hrun,obs]
 by_cases hr:d.length≤65536∧areaK p < k∧k≤(p.1.1.length:Int) - nB d
 case neg=>rw[if_pos (by simpa using hr)];exact⟨_,rfl,fun q=>by simp at q⟩
 rw[if_neg (by simpa using hr)]
 unfold impl_Pager_changed_WriteRun_c1 impl_WriteRun_c1_o42 impl_Pager_writeRun_oc8
 rw[clone_out p hin,obs]
 have hpl:=padD_len d
 rw[iblocksFor_out d hd,obs,wrap_in (n:=(nB d:Int)*64) (by omega) (by omega),show (nB d:Int)*64=((nB d*64:Nat):Int) by omega,padded_out d (nB d*64) (nB_ge d) (by omega),obs,
  show d++List.replicate (nB d*64 - d.length) 0=padD d from rfl,blocksOf_out (padD d) (nB d) hpl (by omega),obs]
 unfold impl_Pager_writeRun_oc8_l1
 have hlen:((((List.range (nB d)).map (blkD (padD d))).length:Nat):Int)=nB d:=by simp
 obtain⟨r,e1,e2⟩:=sets_loopG p k (padD d) (nB d) h hr.2.1 (by omega) hpl (fun s=>impl_Pager_writeRun_oc8_l1_b k ((List.range (nB d)).map (blkD (padD d))) ((((List.range (nB d)).map (blkD (padD d))).length:Nat):Int) s.1 s.2)
  (fun q i hv hi=>by
   have hg:((List.range (nB d)).map (blkD (padD d)))[i]?=some (blkD (padD d) i):=by simp[hi]
   simp only[impl_Pager_writeRun_oc8_l1_b,hlen]
   rw[if_pos (by omega),if_pos (by omega),Int.toNat_natCast,hg,obs,wrap_in (n:=k+i) (by omega) (by omega),set_out q (k+i) (blkD (padD d) i) hv hv.in1,obs,wrap_in (n:=(i:Int)+1) (by omega) (by omega)]
   by_cases hset:SetV q (k+i) (blkD (padD d) i)
   ·rw[if_pos hset,if_pos hset];simp[outPg]
   ·rw[if_neg hset,if_neg hset];simp[outPg])
  (fun q=>by
   simp only[impl_Pager_writeRun_oc8_l1_b,hlen]
   rw[if_neg (by omega)])
 rw[e1,obs]
 rcases e2 with ⟨q,hq,rfl⟩ |⟨hq,q,rfl⟩
 ·exact⟨_,rfl,fun _=>⟨h,hr.1,hr.2.1,hr.2.2,hq⟩⟩
 ·exact⟨_,rfl,fun q=>by simp at q⟩
def numB (s:Int):Int:=max 1 ((s+63) / 64)
theorem numB_in {s:Int} (h0:0≤s) (h1:s≤65536):1≤numB s∧numB s≤1025∧s≤64*numB s:=by unfold numB;omega
theorem wrapB {s:Int} (h0:0≤s) (h1:s≤65536):IntKind.i64.wrap (Int.tdiv (IntKind.i64.wrap (IntKind.i64.wrap (s+64) - 1)) 64)=(s+63) / 64:=by
 rw[wrap_in (n:=s+64) (by omega) (by omega),wrap_in (n:=s+64 - 1) (by omega) (by omega),Int.tdiv_eq_ediv_of_nonneg (by omega),show s+64 - 1=s+63 by omega,wrap_in (by omega) (by omega)]
theorem blocksFor_out {s:Int} (h0:0≤s) (h1:s≤65536):impl_blocksFor s=some (numB s):=by
 unfold impl_blocksFor numB
 rw[wrapB h0 h1]
def catP (p:DPager) (k:Int):Nat→Str
 |0=>[]
 |i+1=>catP p k i++getP p (k+i)
theorem catP_len {p:DPager} (hp:PagerV p) {k:Int} (h0:0≤k):∀ i:Nat,k+i≤(p.1.1.length:Int)→(catP p k i).length=64*i
 |0,_=>rfl
 |i+1,h=>by
  have ih:=catP_len hp h0 i (by omega)
  have:=getP_len p (k+i) hp (by omega) (by omega)
  simp only[catP,List.length_append,ih,this]
  omega
theorem app_str (l:Str) (m:Str) (h:l.length+m.length≤1000000):appL 1 (l.map Bt.mk) (m.map Bt.mk)=some ((l++m).map Bt.mk):=by
 unfold appL
 rw[if_pos (by simp only[List.length_map];unfold maxRow;omega),List.map_append]
def RunV (p:DPager) (k s:Int):Prop:=0≤s∧s≤65536∧areaK p < k∧k≤(p.1.1.length:Int) - numB s
theorem readRun_out (p:DPager) (k s:Int) (hp:PagerV p) (hin:PagerIn p 1048576) (h:RunV p k s):impl_Pager_readRun p k s=some ((catP p k (numB s).toNat).take s.toNat):=by
 have ha:=area_in hp
 obtain⟨h0,h1,h2,h3⟩:=h
 have hn:=numB_in h0 h1
 unfold impl_Pager_readRun impl_Pager_readRun_l1
 rw[blocksFor_out h0 h1,obs,loop_some (r:=(s,(catP p k (numB s).toNat).map Bt.mk)) (numB s).toNat (fun i st=>st=((catP p k i).map Bt.mk,(i:Int))) (fun i st hi hs=>by
  subst hs
  simp only[impl_Pager_readRun_l1_b,pg_eta]
  by_cases hlt:i < (numB s).toNat
  ·have hl:=catP_len hp (show 0≤k by omega) i (by omega)
   have hg:=getP_len p (k+i) hp (by omega) (by omega)
   unfold strings_Builder_WriteString_o0d
   rw[if_pos (by omega),wrap_in (n:=k+i) (by omega) (by omega),get_out p _ hp hin (by omega) (by omega),obs,app_str _ _ (by omega),obs,obs,w1 (by omega)]
   exact .inr ⟨hlt,_,rfl,rfl⟩
  ·have:i=(numB s).toNat:=by omega
   subst this
   rw[if_neg (by omega)]
   exact .inl rfl) (numB s).toNat 0 (nilB,(0:Int)) (by omega) rfl,obs]
 have hl:=catP_len hp (show 0≤k by omega) (numB s).toNat (by omega)
 obtain⟨n,rfl⟩:∃ n:Nat,s=n:=⟨s.toNat,by omega⟩
 unfold strings_Builder_String_of5 strB
 rw[if_pos (by simp only[List.length_map];unfold maxRow;omega),obs,obs,map_v,subL_to _ n (by omega),obs]
 rfl
open Classical in
noncomputable def outRR (p:DPager) (k s:Int):Str×Int:=if PagerV p then (if RunV p k s then ((catP p k (numB s).toNat).take s.toNat,0) else ([],2)) else ([],1)
theorem impl_ReadRun_out (p:DPager) (k s:Int) (hin:PagerIn p 1048576):impl_ReadRun p k s=some (outRR p k s):=by
 unfold impl_ReadRun outRR
 simp only[ValidPager_out p hin,obs,deq]
 by_cases h:PagerV p
 case neg=>rw[if_pos (by simpa using h),if_neg h]
 have ha:=area_in h
 rw[if_neg (by simpa using h),if_pos h]
 unfold impl_Pager_isRun
 have hwi:impl_within s 0 65536=some (decide (0≤s∧s≤65536)):=by
  unfold impl_within
  by_cases h1:0≤s <;> by_cases h2:s≤65536 <;> simp[h1,h2]
 rw[hwi,obs]
 by_cases hs:0≤s∧s≤65536
 ·have hn:=numB_in hs.1 hs.2
  rw[if_pos (by simpa using hs),blocksFor_out hs.1 hs.2,obs,isData_out p h k _ (by omega) (by omega),obs,obs]
  by_cases hr:RunV p k s
  ·rw[if_neg (by simp only[deq];exact fun hh=>hh hr.2.2),if_pos hr,readRun_out p k s h hin hr];rfl
  ·rw[if_pos (by simp only[deq];exact fun hh=>hr ⟨hs.1,hs.2,hh⟩),if_neg hr]
 ·rw[if_neg (by simpa using hs),obs,if_pos (by simp),if_neg (fun hr=>hs ⟨hr.1,hr.2.1⟩)]
theorem take_blk (s:Str):∀ i:Nat,s.take (64*(i+1))=s.take (64*i)++blkD s i:=fun i=>by
 unfold blkD
 rw[show 64*(i+1)=64*i+64 by omega,List.take_add]
theorem cat_sets (q:DPager) (k:Int) (s:Str) (n:Nat) (h:∀ j:Nat,j < n→getP q (k+j)=blkD s j):∀ i,i≤n→catP q k i=s.take (64*i)
 |0,_=>by simp[catP]
 |i+1,hi=>by
  simp only[catP]
  rw[cat_sets q k s n h i (by omega),h i (by omega),take_blk]
theorem FnSpaceRuns_true (code:List Bt) (h:Gd.ok code):laws_FnSpaceRuns code=some true:=by
 unfold laws_FnSpaceRuns laws_b10Long
 simp only[obs,decide_eq_true_eq]
 by_cases c1:(code.length:Int) > 1048576
 ·rw[if_pos c1]
 rw[if_neg c1]
 obtain⟨p,k,d,hd,hin,hdl⟩:=DrawWriteRun_out code
 rw[hd,obs]
 simp only
 obtain⟨⟨x,ok⟩,ho,hz⟩:=impl_WriteRun_out p k d hin (by omega)
 rw[ho,obs]
 simp only at hz ⊢
 by_cases hc:ok=0
 case neg=>rw[if_pos hc]
 rw[if_neg (by simpa using hc)]
 obtain⟨hp,g1,g2,g3,_,hx,e1,e2,e3⟩:=hz hc
 have ha:=area_in hp
 have hnb:1≤nB d∧nB d≤1024∧(nB d:Int)=numB (d.length:Int):=by unfold nB numB;omega
 have hnn:numB ((nB d:Int)*64)=nB d:=by unfold numB;omega
 have hpl:=padD_len d
 have hge:=nB_ge d
 have hbf:impl_BlocksFor (d.length:Int)=some (nB d:Int):=by
  unfold impl_BlocksFor impl_within
  have h1:(d.length:Int) ≥ 0:=by omega
  have h2:(d.length:Int)≤65536:=by omega
  simp only[h1,h2,if_true,obs,decide_true]
  rw[if_neg (by simp),iblocksFor_out d (by omega),obs]
 have hK:areaK x=areaK p:=by unfold areaK;rw[e2]
 have r1:RunV x k (d.length:Int):=⟨by omega,by omega,by rw[hK];exact g2,by rw[e1];omega⟩
 have r2:RunV x k ((nB d:Int)*64):=⟨by omega,by omega,by rw[hK];exact g2,by rw[e1,hnn];omega⟩
 have hcat:=cat_sets x k (padD d) (nB d) e3 (nB d) (Nat.le_refl _)
 rw[show 64*nB d=(padD d).length from hpl.symm,List.take_length] at hcat
 have o1:outRR x k (d.length:Int)=(d,0):=by
  unfold outRR
  rw[if_pos hx,if_pos r1,← hnb.2.2]
  simp only[Int.toNat_natCast]
  rw[hcat]
  unfold padD
  rw[List.take_left' rfl]
 have o2:outRR x k ((nB d:Int)*64)=(padD d,0):=by
  unfold outRR
  rw[if_pos hx,if_pos r2,hnn]
  simp only[Int.toNat_natCast]
  rw[hcat,show ((nB d:Int)*64).toNat=(padD d).length by omega,List.take_length]
 have hpad:impl_PadBytes d ((nB d:Int)*64)=some (padD d,true):=by
  unfold impl_PadBytes
  rw[if_neg (by omega),if_neg (by omega),wrap_in (n:=(nB d:Int)*64 - (d.length:Int)) (by omega) (by omega),show (nB d:Int)*64 - (d.length:Int)=((nB d*64 - d.length:Nat):Int) by omega,zeros_out _ (by omega),obs,if_pos (by simp;omega)]
  rfl
 rw[hbf,obs,wrap_in (n:=(nB d:Int)*64) (by omega) (by omega),impl_ReadRun_out x k _ hx.in1,impl_ReadRun_out x k _ hx.in1,hpad,o1,o2]
 simp
end Go.Proofs.TM
