import Derived.Test.YtlajjnljeebkkaaDoorLScanW
import Derived.Test.YtlajjnljeebkkaaDoorLPip
namespace Go.Proofs.TM
open Go Go.Proofs
set_option maxHeartbeats 1000000
theorem index_out (l:List Str) (w:Str) (h:l.length≤1000):∃ r,slices_Index_string_string_ l w=some r∧-1≤r∧r<1000∧(∀ (i:Nat),l[i]?=some w→(∀ j,j<i→l[j]?≠some w)→r=(i:Int)):=by
 unfold slices_Index_string_string_ slices_Index_string_string__l1
 have key:=loop_ex (f:=fun s=>slices_Index_string_string__l1_b l w (l.length:Int) s) (fun r=>(r=.inl ()∧∀ j:Nat,l[j]?≠some w)∨(∃ k:Nat,r=.inr (k:Int)∧k<l.length∧l[k]?=some w∧∀ j,j<k→l[j]?≠some w)) l.length (fun i s=>s=(i:Int)∧∀ j,j<i→l[j]?≠some w) (fun i s hi hs=>?_) l.length 0 0 (by omega) ⟨rfl,fun j hj=>by omega⟩
 ·obtain⟨r,hr,hP⟩:=key
  rw[hr,obs]
  rcases hP with ⟨rfl,hall⟩ |⟨k,rfl,hk,hkw,hall⟩
  ·exact⟨-1,rfl,by omega,by omega,fun i hi _=>absurd hi (hall i)⟩
  ·refine⟨k,rfl,by omega,by omega,fun i hi hj=>?_⟩
   rcases Nat.lt_trichotomy i k with h1 |h1 |h1
   ·exact absurd hi (hall i h1)
   ·omega
   ·exact absurd hkw (hj k h1)
 ·obtain⟨rfl,hall⟩:=hs
  unfold slices_Index_string_string__l1_b
  by_cases hn:i<l.length
  ·obtain⟨x,hx⟩:=get_at hn
   rw[if_pos (by omega),if_pos (by omega),Int.toNat_natCast,hx,obs]
   by_cases he:w=x
   ·rw[if_pos he];exact .inl ⟨_,rfl,.inr ⟨i,rfl,hn,by rw[he];exact hx,hall⟩⟩
   ·rw[if_neg he,w1 (by omega)]
    refine .inr ⟨hn,_,rfl,by omega,fun j hj=>?_⟩
    by_cases hji:j=i
    ·subst hji;rw[hx];intro e;cases e;exact he rfl
    ·exact hall j (by omega)
  ·rw[if_neg (by omega)]
   exact .inl ⟨_,rfl,.inl ⟨rfl,fun j hj=>by
    have:=(List.getElem?_eq_some_iff.1 hj).1
    exact hall j (by omega) hj⟩⟩
theorem kinds_out {k:Int} (h:k=1∨k=2∨k=3∨k=4∨k=5):slices_Index_string_string_ (lit [([]:Str),[115,104,117,102,102,108,101],[100,101,108,116,97],[114,117,110],[108,122],[115,117,109]]) (wd k)=some k:=by
 obtain⟨r,hr,_,_,hi⟩:=index_out (lit [([]:Str),[115,104,117,102,102,108,101],[100,101,108,116,97],[114,117,110],[108,122],[115,117,109]]) (wd k) (by unfold lit;simp)
 rw[hr,hi k.toNat (wd_at h).1 (fun j hj=>by rcases h with rfl |rfl |rfl |rfl |rfl <;> (have hj':j<5:=by (simp at hj;omega)) <;> (rcases (by omega:j=0∨j=1∨j=2∨j=3∨j=4) with rfl |rfl |rfl |rfl |rfl) <;> first |(simp at hj;done) |(intro e;exact absurd e (by decide)))]
 congr 1;omega
theorem filP1_out (v:DScan) (a:DFil) (f:DFil):impl_scanner_filter_od0_p1 v a f=(impl_scanner_accept_o0b v [63]).bind fun r=>some (r.1,(f.1,f.2.1,r.2)):=rfl
theorem filter_any (s:Str) (b:Bool) (h:s.length≤1048576):∃ s' b' f,impl_scanner_filter_od0 (s,b)=some ((s',b'),f)∧s'.length≤s.length:=by
 obtain⟨e1,_,_⟩:=spnP_eq wc s
 have hl:(spnP wc s).1.length+(spnP wc s).2.length=s.length:=by have:=congrArg List.length e1;rwa [List.length_append] at this
 unfold impl_scanner_filter_od0
 rw[word_out s b h,obs]
 obtain⟨r,hr,_⟩:=index_out (lit [([]:Str),[115,104,117,102,102,108,101],[100,101,108,116,97],[114,117,110],[108,122],[115,117,109]]) (spnP wc s).1 (by unfold lit;simp)
 simp only
 rw[hr,obs]
 obtain⟨s1,k,e,l1⟩:=accept_any (spnP wc s).2 [40] b (by omega)
 simp only[e,obs]
 cases k with
 |true =>
  simp only[if_true]
  obtain⟨s2,b2,n,e2,l2,_⟩:=number_out s1 b (by omega)
  simp only[e2,obs]
  obtain⟨s3,b3,e3,l3,_⟩:=expect_any s2 [41] b2 (by omega)
  simp only[e3,obs,filP1_out]
  obtain⟨s4,k4,e4,l4⟩:=accept_any s3 [63] b3 (by omega)
  simp only[e4,obs]
  exact⟨_,_,_,rfl,by omega⟩
 |false =>
  simp only[Bool.false_eq_true,if_false,filP1_out]
  obtain⟨s4,k4,e4,l4⟩:=accept_any s1 [63] b (by omega)
  simp only[e4,obs]
  exact⟨_,_,_,rfl,by omega⟩
def AftF (t:Str):Prop:=t=[]∨∃ r,t=43::r
theorem filter_text {f:DFil} (h:okF f) (t:Str) (b:Bool) (ht:AftF t) (hs:(tF f++t).length≤1048576):impl_scanner_filter_od0 (tF f++t,b)=some ((t,b),f):=by
 obtain⟨k,p,o⟩:=f
 obtain⟨h1,h2,h3,h4⟩:=h.k
 simp only at h1 h2 h3 h4
 have hw:=wd_at h1
 have hwc:∀ x∈wd k,wc x:=fun x hx=>.inr (.inl (hw.2.2.2 x hx))
 have n40:∀ r,(if o then [63] else [])++t≠40::r:=by
  intro r
  rcases ht with rfl |⟨q,rfl⟩ <;> cases o <;> simp
 have hq:impl_scanner_accept_o0b ((if o then [63] else [])++t,b) [63]=some ((t,b),o):=by
  have hl:((if o then [63] else ([]:Str))++t).length≤1048576:=by
   unfold tF at hs
   simp only[List.append_assoc,List.length_append] at hs ⊢
   omega
  cases o with
  |true=>exact accept_hit [63] t b hl
  |false =>
   have hl:t.length≤1048576:=by simpa using hl
   have:impl_scanner_accept_o0b (t,b) [63]=some ((t,b),false):=accept_miss t [63] b hl (by rcases ht with rfl |⟨q,rfl⟩ <;> simp)
   simpa using this
 have nwc:∀ c:UInt8,c=40∨c=63∨c=43→¬wc c:=by rintro c (rfl |rfl |rfl) <;> decide
 have htw:∀ x r,(if o then [63] else [])++t=x::r→¬wc x:=by
  intro x r e
  rcases ht with rfl |⟨q,rfl⟩ <;> cases o <;> simp at e
  ·exact nwc x (.inr (.inl e.1.symm))
  ·exact nwc x (.inr (.inr e.1.symm))
  ·exact nwc x (.inr (.inl e.1.symm))
 unfold impl_scanner_filter_od0
 rw[word_out _ b hs]
 unfold tF at hs ⊢
 simp only[List.append_assoc] at hs ⊢
 by_cases h0:p>0
 ·rw[if_pos h0] at hs ⊢
  rw[spnP_of wc _ _ hwc (by intro x r e;cases e;exact nwc _ (.inl rfl))]
  simp only[obs]
  rw[kinds_out h1,obs]
  generalize hU:(if o then [63] else ([]:Str))++t=U at hs hq n40 htw ⊢
  have hl1:([40]++(Lib.itoa p++[41]++U)).length≤1048576:=by
   simp only[List.cons_append,List.append_assoc,List.length_append,List.length_cons,List.length_nil] at hs ⊢;omega
  have ea:impl_scanner_accept_o0b ((40::(Lib.itoa p++[41]))++U,b) [40]=some ((Lib.itoa p++([41]++U),b),true):=by
   have:=accept_hit [40] (Lib.itoa p++[41]++U) b hl1
   simpa using this
  rw[ea,obs]
  simp only[if_true]
  have hl2:(Lib.itoa p++([41]++U)).length≤1048576:=by simp only[List.append_assoc,List.length_append,List.length_cons,List.length_nil] at hl1 ⊢;omega
  rw[number_itoa p ([41]++U) b h2 (by omega) (by intro x r e;cases e;unfold nc isD;decide) hl2,obs]
  simp only
  rw[expect_hit [41] U b (by rw[List.length_append] at hl2;omega),obs,filP1_out,hq,obs,obs]
  simp only
  rw[show max 0 k=k by omega]
 ·rw[if_neg h0] at hs ⊢
  rw[List.nil_append] at hs ⊢
  generalize hU:(if o then [63] else ([]:Str))++t=U at hs hq n40 htw ⊢
  rw[spnP_of wc _ _ hwc htw]
  simp only[obs]
  rw[kinds_out h1,obs,accept_miss U [40] b (by rw[List.length_append] at hs;omega) (by
   cases U with
   |nil=>simp
   |cons x r =>
    intro e
    simp at e
    exact n40 r (by rw[e])),obs]
  simp only[Bool.false_eq_true,if_false]
  rw[filP1_out,hq,obs,obs]
  simp only
  rw[show max 0 k=k by omega,show p=0 by omega]
theorem rdIL_any (s0 s:Str) (b:Bool) (f:DFil) (h:s.length≤1048576):∃ v l,impl_ReadPipeline_l1 s0 ((s,b),[f])=some (s0,v,l)∧l≠[]∧l.length≤1048577:=by
 unfold impl_ReadPipeline_l1
 have key:=loop_ex (f:=fun t:DScan×List DFil=>impl_ReadPipeline_l1_b s0 t.1 t.2) (fun r=>∃ v l,r=(s0,v,l)∧l≠[]∧l.length≤1048577) s.length (fun i t=>t.1.1.length+i≤s.length∧t.2≠[]∧t.2.length=i+1) (fun i t hi ht=>?_) s.length 0 ((s,b),[f]) (by omega) ⟨by simp,by simp,rfl⟩
 ·obtain⟨r,hr,v,l,rfl,h1,h2⟩:=key
  exact⟨v,l,hr,h1,h2⟩
 ·obtain⟨⟨r,b⟩,l⟩:=t
  obtain⟨h1,h2,h3⟩:=ht
  simp only at h1 h2 h3
  unfold impl_ReadPipeline_l1_b
  cases b with
  |true=>exact .inl ⟨_,by simp;rfl,_,_,rfl,h2,by omega⟩
  |false =>
   simp only
   rw[if_pos (by simp),accept_out r [43] false (by omega),obs]
   by_cases hc:([43]:Str).length≤r.length∧r.take ([43]:Str).length=[43]
   ·rw[if_pos hc]
    have hr1:1≤r.length:=hc.1
    simp only[if_true,List.length_singleton]
    obtain⟨s',b',g,e,l1⟩:=filter_any (r.drop 1) false (by rw[List.length_drop];omega)
    rw[List.length_drop] at l1
    rw[e,obs,appL_one 24 _ _ (by unfold maxRow;omega),obs]
    exact .inr ⟨by omega,_,rfl,by simp only;omega,by simp,by simp;omega⟩
   ·rw[if_neg hc]
    exact .inl ⟨_,by simp;rfl,_,_,rfl,h2,by omega⟩
def rstF (l:List DFil) (i:Nat):Str:=Lib.joinTail [43] ((l.drop i).map tF)
theorem rstF_at {l:List DFil} {i:Nat} {f:DFil} (h:l[i]?=some f):rstF l i=43::(tF f++rstF l (i+1)):=by
 unfold rstF
 have:l.drop i=f::l.drop (i+1):=by
  rw[List.drop_eq_getElem_cons (List.getElem?_eq_some_iff.1 h).1,(List.getElem?_eq_some_iff.1 h).2]
 rw[this];simp[Lib.joinTail]
theorem rstF_aft (l:List DFil) (i:Nat):AftF (rstF l i):=by
 by_cases h:i<l.length
 ·obtain⟨f,hf⟩:=get_at h
  exact .inr ⟨_,rstF_at hf⟩
 ·left;unfold rstF;rw[List.drop_eq_nil_of_le (by omega)];rfl
theorem rdIL_text (s0:Str) (l:List DFil) (f:DFil) (r:List DFil) (hl:l=f::r) (h:VP l) (hs:(rstF l 1).length≤1048576):impl_ReadPipeline_l1 s0 ((rstF l 1,false),[f])=some (s0,([],false),l):=by
 unfold impl_ReadPipeline_l1
 have hlen:1≤l.length:=by rw[hl];simp
 refine loop_some (l.length-1) (fun i t=>t=((rstF l (i+1),false),l.take (i+1))∧(rstF l (i+1)).length≤1048576) (fun i t hi ht=>?_) (l.length-1) 0 _ (by omega) ⟨by rw[hl];rfl,hs⟩
 obtain⟨rfl,hrl⟩:=ht
 unfold impl_ReadPipeline_l1_b
 simp only
 rw[if_pos (by simp)]
 by_cases hn:i<l.length-1
 ·obtain⟨g,hg⟩:=get_at (show i+1<l.length by omega)
  have ea:=rstF_at hg
  rw[ea] at hrl ⊢
  have hrl2:(tF g++rstF l (i+1+1)).length≤1048576:=by simp only[List.length_cons] at hrl;omega
  have e1:impl_scanner_accept_o0b (43::(tF g++rstF l (i+1+1)),false) [43]=some ((tF g++rstF l (i+1+1),false),true):=accept_hit [43] _ false hrl
  rw[e1,obs]
  simp only[if_true]
  rw[filter_text (h.2 g (List.mem_of_getElem? hg)) _ false (rstF_aft _ _) hrl2,obs,appL_one 24 _ _ (by rw[List.length_take];unfold maxRow;have:=h.1;omega),obs]
  refine .inr ⟨hn,_,rfl,?_,by rw[List.length_append] at hrl2;omega⟩
  rw[List.take_add_one (i:=i+1),hg];rfl
 ·have hi':i+1=l.length:=by omega
  refine .inl ?_
  have he:rstF l (i+1)=[]:=by unfold rstF;rw[List.drop_eq_nil_of_le (by omega)];rfl
  rw[he,accept_miss [] [43] false (by simp) (by simp),obs,if_neg (by simp),List.take_of_length_le (by omega)]
theorem rdPI_out (s:Str) (hs:s.length≤1048576) (hn:s≠noneT):(∃ l,VP l∧l≠[]∧tP l=s∧impl_ReadPipeline s=some (l,true))∨((¬∃ l,VP l∧l≠[]∧tP l=s)∧impl_ReadPipeline s=some ([],false)):=by
 unfold impl_ReadPipeline
 rw[if_neg (show ¬s=[110,111,110,101] from hn)]
 obtain⟨s1,b1,f1,e1,l1⟩:=filter_any s false hs
 rw[e1,obs]
 simp only
 obtain⟨⟨s2,b2⟩,l,e2,l2,l3⟩:=rdIL_any s s1 b1 f1 (by omega)
 have hlit:(lit [(f1.1,f1.2.1,f1.2.2)]:List DFil)=[f1]:=rfl
 rw[hlit,e2,obs]
 have back:(∃ m,VP m∧m≠[]∧tP m=s)→b2=false∧VP l∧tP l=s:=by
  rintro⟨m,hm,hne,rfl⟩
  obtain⟨f,r,rfl⟩:=List.exists_cons_of_ne_nil hne
  have et:tP (f::r)=tF f++rstF (f::r) 1:=by unfold tP rstF;rw[List.map_cons,Lib.join_cons];rfl
  rw[et] at e1 hs
  rw[filter_text (hm.2 f List.mem_cons_self) _ false (rstF_aft _ _) hs] at e1
  simp only[Option.some.injEq,Prod.mk.injEq] at e1
  obtain⟨⟨rfl,rfl⟩,rfl⟩:=e1
  rw[rdIL_text _ (f::r) f r rfl hm (by rw[List.length_append] at hs;omega)] at e2
  cases e2
  exact⟨rfl,hm,rfl⟩
 cases b2 with
 |true=>exact .inr ⟨fun h=>(by cases (back h).1),by simp⟩
 |false =>
  simp only[Bool.false_eq_true,if_false]
  obtain⟨c,hc,hv⟩:=iPip_out l
  rw[hc,obs]
  cases c with
  |false=>exact .inr ⟨fun h=>(by have:=hv.2 (back h).2.1;cases this),by simp⟩
  |true =>
   have hx:=hv.1 rfl
   rw[if_neg (by simp),iPText_out l hx l2,obs]
   by_cases ht:tP l=s
   ·exact .inl ⟨l,hx,l2,ht,by rw[if_neg (by simpa using ht)]⟩
   ·exact .inr ⟨fun h=>ht (back h).2.2,by rw[if_pos ht]⟩
end Go.Proofs.TM
