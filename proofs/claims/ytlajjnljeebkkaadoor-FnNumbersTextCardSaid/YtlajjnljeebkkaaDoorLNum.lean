import Derived.Test.YtlajjnljeebkkaaDoorLDims
import Derived.Test.YtlajjnljeebkkaaDoorLDigL
import Derived.Test.YtlajjnljeebkkaaDoorLSplitS
import Derived.Test.YtlajjnljeebkkaaDoorLRdec
namespace Go.Proofs.TM
open Go Go.Proofs
set_option maxHeartbeats 1000000
abbrev DNum:=List Int×List Int
def VN (n:DNum):Prop:=VD n.1∧(n.2.length:Int)=prodW n.1∧∀ x∈n.2,-1000000000000≤x∧x≤1000000000000
theorem VN.len {n:DNum} (h:VN n):n.1.length≤3∧n.2.length≤600:=by
 have:=h.1.1;have:=h.1.2.2;have:=h.2.1;omega
theorem sCount_out (l:List Int) (h:l.length≤1048576):spec_l05Count l=some (prodW l):=by
 unfold spec_l05Count spec_l05Count_l1
 rw[loop_some (r:=prodW l) l.length (fun i t=>t=(prodW (l.take i),(i:Int))) (fun i t hi ht=>?_) l.length 0 (1,0) (by omega) rfl,obs]
 subst ht
 unfold spec_l05Count_l1_b
 simp only
 by_cases hn:i<l.length
 ·obtain⟨x,hx⟩:=get_at hn
  rw[if_pos (by omega),if_pos (by omega),Int.toNat_natCast,hx,obs,w1 (by omega)]
  refine .inr ⟨hn,_,rfl,?_⟩
  rw[List.take_add_one,hx];simp only[Option.toList_some];rw[prodW_snoc];push_cast;rfl
 ·have:i=l.length:=by omega
  subst this
  rw[if_neg (by omega),List.take_length];exact .inl rfl
theorem sNum_out (n:DNum) (h:n.2.length≤1048576):∃ b,spec_l25Ok n=some b∧(b=true↔VN n):=by
 unfold spec_l25Ok
 obtain⟨b,hb,hv⟩:=sDims_out n.1
 rw[hb,obs]
 cases b with
 |false=>exact⟨false,by simp,⟨fun h=>(by cases h),fun h=>(by have:=hv.2 h.1;cases this)⟩⟩
 |true =>
  have hd:=hv.1 rfl
  rw[if_neg (not_not_intro rfl),sCount_out _ (by have:=hd.1;omega),obs]
  by_cases hl:(n.2.length:Int)=prodW n.1
  ·rw[if_neg (not_not_intro hl)]
   unfold spec_l25Ok_l1
   classical
   rw[loop_mem n.2 (fun x=>-1000000000000≤x∧x≤1000000000000) (fun s=>spec_l25Ok_l1_b n s) (.inl ()) (.inr false) (fun i x hi hx hp=>?_) (fun i x hi hx hp=>?_) (by simp[spec_l25Ok_l1_b]),obs]
   ·by_cases ha:∀ x∈n.2,-1000000000000≤x∧x≤1000000000000
    ·rw[if_pos ha];exact⟨true,rfl,⟨fun _=>⟨hd,hl,ha⟩,fun _=>rfl⟩⟩
    ·rw[if_neg ha];exact⟨false,rfl,⟨fun h=>(by cases h),fun h=>absurd h.2.2 ha⟩⟩
   ·unfold spec_l25Ok_l1_b spec_l25Fits
    rw[if_pos (by omega),if_pos (by omega),Int.toNat_natCast,hx,obs,l00In_out,obs,obs,if_neg (by simp[hp]),w1 (by omega)]
   ·unfold spec_l25Ok_l1_b spec_l25Fits
    rw[if_pos (by omega),if_pos (by omega),Int.toNat_natCast,hx,obs,l00In_out,obs,obs,decide_eq_false hp,if_pos (by simp)]
  ·rw[if_pos hl];exact⟨false,rfl,⟨fun h=>(by cases h),fun h=>absurd h.2.1 hl⟩⟩
theorem iNum_out (n:DNum) (h:n.2.length≤1048577):∃ b,impl_ValidNumbers n=some b∧(b=true↔VN n):=by
 unfold impl_ValidNumbers
 obtain⟨b,hb,hv⟩:=iDims_out n.1
 rw[hb,obs]
 cases b with
 |false=>exact⟨false,by simp,⟨fun h=>(by cases h),fun h=>(by have:=hv.2 h.1;cases this)⟩⟩
 |true =>
  have hd:=hv.1 rfl
  rw[if_pos rfl,iProd_out _ (by have:=hd.1;omega),obs]
  by_cases hl:(n.2.length:Int)=prodW n.1
  ·rw[if_pos hl]
   obtain⟨c,hc,hcv⟩:=allWithin_out n.2 (-1000000000000) 1000000000000 (by omega)
   rw[hc,obs]
   exact⟨c,rfl,⟨fun e=>⟨hd,hl,hcv.1 e⟩,fun e=>hcv.2 e.2.2⟩⟩
  ·rw[if_neg hl];exact⟨false,rfl,⟨fun h=>(by cases h),fun h=>absurd h.2.1 hl⟩⟩
def nW (n:DNum):List Str:=(40::(listT n.1++[41]))::n.2.map Lib.itoa
def nT (n:DNum):Str:=Lib.join (nW n) [32]
theorem nums_of {l:List Int} (h:l.length≤1000) (hb:∀ x∈l,-1000000000000≤x∧x≤1000000000000):Nums l:=⟨by omega,fun x hx=>by have:=hb x hx;omega⟩
theorem VN.nums {n:DNum} (h:VN n):Nums n.1∧Nums n.2 :=
 ⟨nums_of (by have:=h.len;omega) (fun x hx=>by have:=h.1.2.1 x hx;omega),nums_of (by have:=h.len;omega) h.2.2⟩
theorem nT_le {n:DNum} (h1:Nums n.1) (h2:Nums n.2) (h3:n.1.length≤3) (h4:n.2.length≤600):(nT n).length≤20000:=by
 have e:(nT n).length=(40::(listT n.1++[41])).length+(Lib.joinTail [32] (n.2.map Lib.itoa)).length:=by
  unfold nT nW;rw[Lib.join_cons,List.length_append]
 have ht:∀ r:List Int,(∀ x∈r,(Lib.itoa x).length≤21)→(Lib.joinTail [32] (r.map Lib.itoa)).length≤r.length*22:=by
  intro r
  induction r with
  |nil=>intro _;simp[Lib.joinTail]
  |cons y r ih =>
   intro hr
   have i1:=ih (fun x hx=>hr x (List.mem_cons_of_mem _ hx))
   have i2:=hr y List.mem_cons_self
   simp only[Lib.joinTail,List.map_cons,List.flatten_cons,List.length_append,List.length_cons,List.length_nil] at i1 ⊢
   omega
 have l1:=listT_le n.1 h1
 have l2:=ht n.2 (fun x hx=>itoa_le x (by have:=h2.2 x hx;omega) (h2.2 x hx).2)
 rw[e]
 simp only[List.length_cons,List.length_append,List.length_nil]
 omega
theorem iNT_out (n:DNum) (h1:Nums n.1) (h2:Nums n.2) (h3:n.1.length≤3) (h4:n.2.length≤600):impl_Numbers_text n=some (nT n):=by
 have hl:=listT_le n.1 h1
 unfold impl_Numbers_text impl_Numbers_text_l1
 rw[listText_out _ h1,obs,if_pos (by simp only[List.length_cons,List.length_nil];omega),if_pos (by simp only[List.length_append,List.length_cons,List.length_nil];omega)]
 rw[loop_some (r:=nW n) n.2.length (fun i t=>t=((40::(listT n.1++[41]))::(n.2.take i).map Lib.itoa,(i:Int))) (fun i t hi ht=>?_) n.2.length 0 _ (by omega) (by simp[lit]),obs]
 ·have hj:=nT_le h1 h2 h3 h4
  show (joinS (nW n) [32]).bind _=_
  unfold joinS
  rw[if_pos ⟨by unfold nW;rw[List.length_cons,List.length_map];omega,by show (nT n).length≤_;omega⟩]
  rfl
 ·subst ht
  unfold impl_Numbers_text_l1_b
  simp only
  by_cases hn:i<n.2.length
  ·obtain⟨x,hx⟩:=get_at hn
   have hx':=h2.2 x (List.mem_of_getElem? hx)
   have e:impl_decimal x=some (Lib.itoa x):=by
    unfold impl_decimal
    show (fmtS x).bind _=_
    unfold fmtS;rw[if_pos (by omega)];rfl
   rw[if_pos (by omega),if_pos (by omega),Int.toNat_natCast,hx,obs,e,obs,appL_one 16 _ _ (by rw[List.length_cons,List.length_map,List.length_take];unfold maxRow;omega),obs,w1 (by omega)]
   refine .inr ⟨hn,_,rfl,?_⟩
   rw[List.take_add_one,hx];simp
  ·have:i=n.2.length:=by omega
   subst this
   rw[if_neg (by omega),List.take_length];exact .inl rfl
theorem iNumT_out (n:DNum) (h:VN n):impl_NumbersText n=some (nT n):=by
 unfold impl_NumbersText
 obtain⟨b,hb,hv⟩:=iNum_out n (by have:=h.len;omega)
 rw[hb,obs,hv.2 h,if_neg (not_not_intro rfl),iNT_out n h.nums.1 h.nums.2 h.len.1 h.len.2,obs]
theorem itoa_no (n:Int) (c:UInt8) (hc:¬isD c) (h45:c≠45):∀ b∈Lib.itoa n,b≠c:=by
 intro b hb
 unfold Lib.itoa at hb
 split at hb
 ·rcases List.mem_cons.1 hb with rfl |hb
  ·exact h45.symm
  ·intro e;subst e;exact hc ((dec_dig _).1 b hb)
 ·intro e;subst e;exact hc ((dec_dig _).1 b hb)
theorem joinT_no {l:List Str} {c d:UInt8} (hcd:d≠c) (h:∀ x∈l,∀ b∈x,b≠c):∀ b∈Lib.join l [d],b≠c:=by
 have ht:∀ r:List Str,(∀ x∈r,∀ b∈x,b≠c)→∀ b∈Lib.joinTail [d] r,b≠c:=by
  intro r
  induction r with
  |nil=>intro _ b hb;simp[Lib.joinTail] at hb
  |cons y r ih =>
   intro hr b hb
   have:Lib.joinTail [d] (y::r)=d::(y++Lib.joinTail [d] r):=by simp[Lib.joinTail]
   rw[this] at hb
   rcases List.mem_cons.1 hb with rfl |hb
   ·exact hcd
   ·rcases List.mem_append.1 hb with hb |hb
    ·exact hr y List.mem_cons_self b hb
    ·exact ih (fun x hx=>hr x (List.mem_cons_of_mem _ hx)) b hb
 cases l with
 |nil=>intro b hb;rw[Lib.join_nil] at hb;cases hb
 |cons x r =>
  intro b hb
  rw[Lib.join_cons] at hb
  rcases List.mem_append.1 hb with hb |hb
  ·exact h x List.mem_cons_self b hb
  ·exact ht r (fun y hy=>h y (List.mem_cons_of_mem _ hy)) b hb
theorem listT_no (l:List Int) (c:UInt8) (hc:¬isD c) (h45:c≠45) (h44:c≠44):∀ b∈listT l,b≠c :=
 joinT_no h44.symm fun x hx=>by obtain⟨y,_,rfl⟩:=List.mem_map.1 hx;exact itoa_no y c hc h45
theorem split_out (s:Str) (c:UInt8) (h:s.length≤1048577):strings_Split s c=some (spl c s):=by
 show splitS s c=_
 unfold splitS;rw[if_pos (by omega)]
theorem rdec_out (s:Str) (h:s.length≤1048577):∃ n b,impl_readDecimal s=some (n,b):=by
 obtain⟨n,b,e,_⟩:=rdecS_some s (by omega)
 exact⟨n,b,e⟩
theorem readList_any (s:Str) (h:s.length≤1048577):∃ l b,impl_readList s=some (l,b):=by
 unfold impl_readList impl_readList_l1
 by_cases h0:s=[]
 ·rw[if_pos h0];exact⟨_,_,rfl⟩
 rw[if_neg h0,split_out s 44 h,obs]
 have hs:=spl_len 44 s
 generalize hL:spl 44 s=L at hs
 have key:=loop_ex (f:=fun t:List Int×Int=>impl_readList_l1_b L ((L.length:Nat):Int) t.1 t.2) (fun r=>True) L.length (fun i t=>t.1.length=i∧t.2=(i:Int)) (fun i t hi ht=>?_) L.length 0 ([],0) (by omega) ⟨rfl,rfl⟩
 ·obtain⟨r,hr,_⟩:=key
  rw[hr,obs]
  cases r <;> exact⟨_,_,rfl⟩
 ·obtain⟨l,k⟩:=t
  obtain⟨h1,rfl⟩:=ht
  simp only at h1
  unfold impl_readList_l1_b
  simp only
  by_cases hn:i<L.length
  ·obtain⟨x,hx⟩:=get_at hn
   obtain⟨n,b,e⟩:=rdec_out x (by have:=hs.2 x (List.mem_of_getElem? hx);omega)
   rw[if_pos (by omega),if_pos ⟨by omega,by omega⟩,Int.toNat_natCast,hx,obs,e,obs]
   cases b with
   |false=>exact .inl ⟨_,by simp;rfl,trivial⟩
   |true =>
    simp only
    rw[if_neg (by simp),appL_one 8 _ _ (by unfold maxRow;omega),obs,w1 (by omega)]
    exact .inr ⟨hn,_,rfl,by simp[h1],by push_cast;rfl⟩
  ·rw[if_neg (by omega)];exact .inl ⟨_,rfl,trivial⟩
theorem readList_text (l:List Int) (h:Nums l) (hl:l.length≤1000):impl_readList (listT l)=some (l,true):=by
 have hlen:=listT_le l h
 unfold impl_readList impl_readList_l1
 by_cases h0:l=[]
 ·subst h0;rw[if_pos (by simp[listT,Lib.join_nil])]
 ·have hne:listT l≠[]:=by
   intro e
   obtain⟨x,r,rfl⟩:=List.exists_cons_of_ne_nil h0
   unfold listT at e
   rw[List.map_cons,Lib.join_cons] at e
   have:=congrArg List.length e
   rw[List.length_append,List.length_nil] at this
   have h2:Lib.itoa x≠[]:=by
    unfold Lib.itoa
    split
    ·simp
    ·obtain⟨k,t,_,e⟩:=dec_ne x.toNat;rw[e];simp
   exact h2 (List.eq_nil_of_length_eq_zero (by omega))
  have hsp:spl 44 (listT l)=l.map Lib.itoa:=spl_join 44 _ (by simpa using h0) (fun y hy=>by obtain⟨x,_,rfl⟩:=List.mem_map.1 hy;exact itoa_no x 44 (by decide) (by decide))
  rw[if_neg hne,split_out _ 44 (by omega),obs,hsp]
  rw[loop_some (r:=.inl l) l.length (fun i t=>t=(l.take i,(i:Int))) (fun i t hi ht=>?_) l.length 0 _ (by omega) (by simp),obs]
  ·rfl
  ·subst ht
   unfold impl_readList_l1_b
   simp only[List.length_map]
   by_cases hn:i<l.length
   ·obtain⟨x,hx⟩:=get_at hn
    have hx':=h.2 x (List.mem_of_getElem? hx)
    have e:impl_readDecimal (Lib.itoa x)=some (x,true):=rdecS_itoa x (by omega) hx'.2
    rw[if_pos (by omega),if_pos ⟨by omega,by omega⟩,Int.toNat_natCast,List.getElem?_map,hx,Option.map_some,obs,e,obs,if_neg (by simp),appL_one 8 _ _ (by rw[List.length_take];unfold maxRow;omega),obs,w1 (by omega)]
    refine .inr ⟨hn,_,rfl,?_⟩
    rw[List.take_add_one,hx];rfl
   ·have:i=l.length:=by omega
    subst this
    rw[if_neg (by omega),List.take_length];exact .inl rfl
theorem cutP_out (s t:Str) (h:s.length≤1048577):strings_CutPrefix s t=some (if t.length≤s.length∧s.take t.length=t then (s.drop t.length,true) else (s,false)):=by
 unfold strings_CutPrefix internal_stringslite_CutPrefix internal_stringslite_HasPrefix
 by_cases hl:t.length≤s.length
 ·rw[if_pos (by omega),subL_to s _ hl,obs,obs]
  by_cases he:s.take t.length=t
  ·rw[if_neg (by simp[he]),if_pos ⟨hl,he⟩,subL_from s _ hl];rfl
  ·rw[if_pos (by simpa using he),if_neg (fun hh=>he hh.2)];rfl
 ·rw[if_neg (by omega),if_neg (fun hh=>hl hh.1)];rfl
theorem cutS_out (s:Str) (c:UInt8) (h:s.length≤1048577):strings_CutSuffix s [c]=some (if 1≤s.length∧s.drop (s.length-1)=[c] then (s.take (s.length-1),true) else (s,false)):=by
 unfold strings_CutSuffix internal_stringslite_CutSuffix internal_stringslite_HasSuffix
 by_cases hl:1≤s.length
 ·have e1:IntKind.i64.wrap ((s.length:Int)-(([c]:Str).length:Int))=((s.length-1:Nat):Int):=by rw[List.length_singleton,wrap_in (by omega) (by omega)];omega
  rw[if_pos (by simp only[List.length_singleton];omega),e1,subL_from s _ (by omega),obs,obs]
  by_cases he:s.drop (s.length-1)=[c]
  ·rw[if_neg (by simp[he]),if_pos ⟨hl,he⟩,subL_to s _ (by omega)];rfl
  ·rw[if_pos (by simpa using he),if_neg (fun hh=>he hh.2)];rfl
 ·rw[if_neg (by simp only[List.length_singleton];omega),if_neg (fun hh=>hl hh.1)];rfl
theorem rLists_loop (L:List Str) (hL:L.length≤1048578) (hs:∀ x∈L,x.length≤1048577):∃ r,impl_readLists_l1 L ((L.length:Nat):Int) ([],0)=some r:=by
 unfold impl_readLists_l1
 have key:=loop_ex (f:=fun t:List (List Int)×Int=>impl_readLists_l1_b L ((L.length:Nat):Int) t.1 t.2) (fun r=>True) L.length (fun i t=>t.1.length=i∧t.2=(i:Int)) (fun i t hi ht=>?_) L.length 0 ([],0) (by omega) ⟨rfl,rfl⟩
 ·obtain⟨r,hr,_⟩:=key
  exact⟨r,hr⟩
 ·obtain⟨l,k⟩:=t
  obtain⟨h1,rfl⟩:=ht
  simp only at h1
  unfold impl_readLists_l1_b
  simp only
  by_cases hn:i<L.length
  ·obtain⟨x,hx⟩:=get_at hn
   obtain⟨n,b,e⟩:=readList_any x (hs x (List.mem_of_getElem? hx))
   rw[if_pos (by omega),if_pos ⟨by omega,by omega⟩,Int.toNat_natCast,hx,obs,e,obs]
   cases b with
   |false=>exact .inl ⟨_,by simp;rfl,trivial⟩
   |true =>
    simp only
    rw[if_neg (by simp),appL_one 24 _ _ (by unfold maxRow;omega),obs,w1 (by omega)]
    exact .inr ⟨hn,_,rfl,by simp[h1],by push_cast;rfl⟩
  ·rw[if_neg (by omega)];exact .inl ⟨_,rfl,trivial⟩
theorem readLists_any (s:Str) (h:s.length≤1048577):∃ l b,impl_readLists s []=some (l,b):=by
 unfold impl_readLists
 rw[if_pos (by simp),cutP_out s _ h,obs]
 generalize hp:(if (([]:Str)++[40]).length≤s.length∧s.take (([]:Str)++[40]).length=[]++[40] then (s.drop (([]:Str)++[40]).length,true) else (s,false))=p
 have hpl:p.1.length≤s.length:=by rw[← hp];split <;> simp
 rw[cutS_out p.1 41 (by omega),obs]
 generalize hq:(if 1≤p.1.length∧p.1.drop (p.1.length-1)=[41] then (p.1.take (p.1.length-1),true) else (p.1,false))=q
 have hql:q.1.length≤p.1.length:=by rw[← hq];split <;> simp
 by_cases hp2:p.2=true
 ·rw[if_neg (not_not_intro hp2)]
  by_cases hq2:q.2=true
  ·have hs:=spl_len 59 q.1
   rw[if_neg (not_not_intro hq2),split_out q.1 59 (by omega),obs]
   obtain⟨r,hr⟩:=rLists_loop (spl 59 q.1) (by omega) (fun x hx=>by have:=hs.2 x hx;omega)
   rw[hr,obs]
   cases r <;> exact⟨_,_,rfl⟩
  ·rw[if_pos hq2];exact⟨_,_,rfl⟩
 ·rw[if_pos hp2];exact⟨_,_,rfl⟩
theorem readLists_text (l:List Int) (h:Nums l) (hl:l.length≤1000):impl_readLists (40::(listT l++[41])) []=some ([l],true):=by
 have hlen:=listT_le l h
 unfold impl_readLists
 have e1:strings_CutPrefix (40::(listT l++[41])) ([]++[40])=some (listT l++[41],true):=by
  rw[cutP_out _ _ (by simp only[List.length_cons,List.length_append,List.length_nil];omega),if_pos ⟨by simp,by simp⟩];simp
 have e2:strings_CutSuffix (listT l++[41]) [41]=some (listT l,true):=by
  rw[cutS_out _ _ (by simp only[List.length_cons,List.length_append,List.length_nil];omega),if_pos ⟨by simp,by simp⟩];simp
 have hsp:spl 59 (listT l)=[listT l]:=spl_miss 59 _ (listT_no l 59 (by decide) (by decide) (by decide))
 rw[if_pos (by simp),e1,obs]
 simp only
 rw[e2,obs]
 simp only[not_true_eq_false,if_false]
 rw[split_out _ 59 (by omega),obs,hsp]
 unfold impl_readLists_l1
 rw[loop_some (r:=.inl [l]) 1 (fun i t=>t=(([l]:List (List Int)).take i,(i:Int))) (fun i t hi ht=>?_) 1 0 _ (by omega) (by simp),obs]
 ·rfl
 ·subst ht
  unfold impl_readLists_l1_b
  simp only[List.length_singleton]
  by_cases hn:i<1
  ·have:i=0:=by omega
   subst this
   rw[if_pos (by omega),if_pos ⟨by omega,by omega⟩]
   simp only[Int.toNat_zero,List.getElem?_cons_zero,obs,Int.ofNat_zero,Int.toNat_natCast,Int.natCast_zero]
   rw[readList_text l h hl,obs,if_neg (by simp),appL_one 24 _ _ (by unfold maxRow;simp),obs]
   exact .inr ⟨hn,_,rfl,by simp[wrap_in]⟩
  ·have:i=1:=by omega
   subst this
   rw[if_neg (by omega)];exact .inl rfl
theorem rnP2_out (s:Str) (b:Bool) (n:DNum) (x:Int) (L:List Str) (k i:Int) (h:n.2.length≤1048577):impl_ReadNumbers_p2 s b n x L k i=some (s,b,(n.1,n.2++[x]),L,k,i):=by
 unfold impl_ReadNumbers_p2
 rw[appL_one 8 _ _ (by unfold maxRow;omega),obs]
theorem readN_any (s:Str) (hs:s.length≤1048576):∃ d m b,impl_ReadNumbers s=some (d,m,b)∧(b=true→VN (d,m)∧nT (d,m)=s):=by
 have hsl:=spl_len 32 s
 obtain⟨w,t,e⟩:=spl_ne 32 s
 rw[e] at hsl
 unfold impl_ReadNumbers
 rw[split_out s 32 (by omega),obs,e,if_pos ⟨by omega,by simp only[List.length_cons];omega⟩]
 simp only[Int.toNat_zero,List.getElem?_cons_zero,obs]
 have hw:=hsl.2 w List.mem_cons_self
 obtain⟨l,b,e1⟩:=readLists_any w (by omega)
 rw[e1,obs]
 cases b with
 |false=>exact⟨_,_,_,by simp;exact⟨rfl,rfl,rfl⟩,fun h=>by cases h⟩
 |true =>
  rw[if_neg (by simp)]
  by_cases hl:((l.length:Nat):Int)=1
  ·simp only[hl,not_true_eq_false,if_false]
   obtain⟨d,rfl⟩:∃ d,l=[d]:=by
    match l,hl with
    |[d],_=>exact⟨d,rfl⟩
    |_::_::_,hl=>simp only[List.length_cons] at hl;omega
   rw[if_pos ⟨by omega,by omega⟩,List.getElem?_cons_zero,obs]
   have e2:=subL_from (w::t) 1 (by simp)
   rw[show (((1:Nat):Nat):Int)=1 from rfl] at e2
   rw[e2,obs,List.drop_succ_cons,List.drop_zero]
   have ht:t.length≤1048576:=by simp only[List.length_cons] at hsl;omega
   have key:=loop_ex (f:=fun q:Str×Bool×DNum×List Str×Int×Int=>impl_ReadNumbers_l1_b q.1 q.2.1 q.2.2.1 q.2.2.2.1 q.2.2.2.2.1 q.2.2.2.2.2) (fun r=>∃ c n,r=(s,c,n)∧n.2.length≤1048576) t.length (fun i q=>∃ c n,q=(s,c,n,t,(t.length:Int),(i:Int))∧n.2.length=i) (fun i q hi hq=>?_) t.length 0 (s,true,(d,[]),t,(t.length:Int),0) (by omega) ⟨true,(d,[]),rfl,rfl⟩
   ·obtain⟨r,hr,c,n,rfl,hnl⟩:=key
    unfold impl_ReadNumbers_l1
    rw[hr,obs]
    cases c with
    |false=>exact⟨_,_,_,by simp;exact⟨rfl,rfl,rfl⟩,fun h=>by cases h⟩
    |true =>
     simp only[not_true_eq_false,if_false]
     obtain⟨v,hv,hvv⟩:=iNum_out n (by omega)
     rw[hv,obs]
     cases v with
     |false=>exact⟨_,_,_,by simp;exact⟨rfl,rfl,rfl⟩,fun h=>by cases h⟩
     |true =>
      have hV:=hvv.1 rfl
      rw[if_neg (by simp),iNT_out n hV.nums.1 hV.nums.2 hV.len.1 hV.len.2,obs]
      by_cases he:nT n=s
      ·exact⟨n.1,n.2,true,by rw[if_neg (not_not_intro he)],fun _=>⟨hV,he⟩⟩
      ·exact⟨_,_,_,by rw[if_pos he],fun h=>by cases h⟩
   ·obtain⟨c,n,rfl,hnl⟩:=hq
    unfold impl_ReadNumbers_l1_b
    simp only
    by_cases hn:i<t.length
    ·obtain⟨x,hx⟩:=get_at hn
     obtain⟨y,b,er⟩:=rdec_out x (by have:=hsl.2 x (List.mem_cons_of_mem _ (List.mem_of_getElem? hx));omega)
     rw[if_pos (by omega),if_pos (by omega),Int.toNat_natCast,hx,obs,er,obs]
     cases c with
     |true =>
      rw[if_pos rfl,rnP2_out _ _ _ _ _ _ _ (by omega),obs]
      exact .inr ⟨hn,_,rfl,_,_,by simp only[w1 (show i<9223372036854775807 by omega)];push_cast;rfl,by simp[hnl]⟩
     |false =>
      rw[if_neg (by simp),rnP2_out _ _ _ _ _ _ _ (by omega),obs]
      exact .inr ⟨hn,_,rfl,_,_,by simp only[w1 (show i<9223372036854775807 by omega)];push_cast;rfl,by simp[hnl]⟩
    ·rw[if_neg (by omega)]
     exact .inl ⟨_,rfl,_,_,rfl,by omega⟩
  ·rw[if_pos hl];exact⟨_,_,_,rfl,fun h=>by cases h⟩
theorem readN_text (n:DNum) (h:VN n):impl_ReadNumbers (nT n)=some (n.1,n.2,true):=by
 have hT:=nT_le h.nums.1 h.nums.2 h.len.1 h.len.2
 have hl:=h.len
 have hsp:spl 32 (nT n)=nW n:=spl_join 32 _ (by simp[nW]) (fun x hx=>by
  unfold nW at hx
  rcases List.mem_cons.1 hx with rfl |hx
  ·intro b hb
   rcases List.mem_cons.1 hb with rfl |hb
   ·decide
   ·rcases List.mem_append.1 hb with hb |hb
    ·exact listT_no n.1 32 (by decide) (by decide) (by decide) b hb
    ·simp at hb;subst hb;decide
  ·obtain⟨y,_,rfl⟩:=List.mem_map.1 hx;exact itoa_no y 32 (by decide) (by decide))
 unfold impl_ReadNumbers
 rw[split_out _ 32 (by omega),obs,hsp]
 unfold nW
 rw[if_pos ⟨by omega,by simp only[List.length_cons];omega⟩]
 simp only[Int.toNat_zero,List.getElem?_cons_zero,obs]
 rw[readLists_text n.1 h.nums.1 (by omega),obs]
 simp only
 rw[if_neg (by simp),if_neg (by simp),if_pos ⟨by omega,by simp⟩,List.getElem?_cons_zero,obs]
 have e2:=subL_from ((40::(listT n.1++[41]))::n.2.map Lib.itoa) 1 (by simp)
 rw[show (((1:Nat):Nat):Int)=1 from rfl] at e2
 rw[e2,obs,List.drop_succ_cons,List.drop_zero]
 unfold impl_ReadNumbers_l1
 rw[loop_some (r:=(nT n,true,n)) n.2.length (fun i q=>q=(nT n,true,(n.1,n.2.take i),n.2.map Lib.itoa,(n.2.length:Int),(i:Int))) (fun i q hi hq=>?_) n.2.length 0 _ (by omega) (by simp[nT,nW]),obs]
 ·simp only[not_true_eq_false,if_false]
  obtain⟨v,hv,hvv⟩:=iNum_out n (by omega)
  rw[hv,obs,hvv.2 h,if_neg (by simp),iNT_out n h.nums.1 h.nums.2 h.len.1 h.len.2,obs,if_neg (by simp)]
 ·subst hq
  unfold impl_ReadNumbers_l1_b
  simp only
  by_cases hn:i<n.2.length
  ·obtain⟨x,hx⟩:=get_at hn
   have hx':=h.nums.2.2 x (List.mem_of_getElem? hx)
   have e:impl_readDecimal (Lib.itoa x)=some (x,true):=rdecS_itoa x (by omega) hx'.2
   rw[if_pos (by omega),if_pos (by omega),Int.toNat_natCast,List.getElem?_map,hx,Option.map_some,obs,e,obs,if_pos trivial,rnP2_out _ _ _ _ _ _ _ (by simp only[List.length_take];omega),obs]
   refine .inr ⟨hn,_,rfl,?_⟩
   simp only[w1 (show i<9223372036854775807 by omega)]
   rw[List.take_add_one,hx];push_cast;rfl
  ·have:i=n.2.length:=by omega
   subst this
   rw[if_neg (by omega),List.take_length];exact .inl rfl
end Go.Proofs.TM
