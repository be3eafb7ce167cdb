import Derived.Test.YtcmhbjnmjfhgaaaDoorLPA
namespace Go.Proofs.TM
open Go Go.Proofs
set_option maxHeartbeats 1000000
abbrev DFil:=Int×Int×Bool
def okF (f:DFil):Prop:=(f.1=1∧(1≤f.2.1∧f.2.1≤24)∧f.2.2=false)∨(f.1=2∧(f.2.1=1∨f.2.1=2∨f.2.1=4)∧f.2.2=false)∨(f.1=3∧f.2.1=0)∨(f.1=4∧f.2.1=0)∨(f.1=5∧f.2.1=0∧f.2.2=false)
theorem okF_1 {p:Int} {o:Bool}:okF (1,p,o)↔(1≤p∧p≤24)∧o=false:=by simp[okF]
theorem okF_2 {p:Int} {o:Bool}:okF (2,p,o)↔(p=1∨p=2∨p=4)∧o=false:=by simp[okF]
theorem okF_3 {p:Int} {o:Bool}:okF (3,p,o)↔p=0:=by simp[okF]
theorem okF_4 {p:Int} {o:Bool}:okF (4,p,o)↔p=0:=by simp[okF]
theorem okF_5 {p:Int} {o:Bool}:okF (5,p,o)↔p=0∧o=false:=by simp[okF]
theorem okF_n {k p:Int} {o:Bool} (h1:¬k=1) (h2:¬k=2) (h3:¬k=3) (h4:¬k=4) (h5:¬k=5):¬okF (k,p,o):=by simp[okF,h1,h2,h3,h4,h5]
theorem bnot_iff {o:Bool}:((!o)=true)↔o=false:=by cases o <;> simp
theorem pIn_out (n a b:Int):spec_l00In n a b=some (decide (a≤n∧n≤b)):=by
 unfold spec_l00In
 by_cases h:n≥a
 ·rw[if_pos h];exact dI (by omega)
 ·rw[if_neg h];exact dF (by omega)
theorem pWi_out (n a b:Int):impl_within n a b=some (decide (a≤n∧n≤b)):=by
 unfold impl_within
 by_cases h:n≥a
 ·rw[if_pos h];exact dI (by omega)
 ·rw[if_neg h];exact dF (by omega)
theorem sFil_out (f:DFil):∃ b,spec_l18Ok f=some b∧(b=true↔okF f):=by
 obtain⟨k,p,o⟩:=f
 unfold spec_l18Ok spec_l18Ok_p1 spec_l18Ok_p2
 simp only
 by_cases h1:k=1
 ·subst h1
  rw[if_pos rfl,pIn_out,obs,okF_1]
  by_cases hp:1≤p∧p≤24
  ·rw[decide_eq_true hp,if_pos rfl];exact⟨_,rfl,by rw[bnot_iff];simp[hp]⟩
  ·rw[decide_eq_false hp,if_neg (by simp)];exact⟨_,rfl,by simp;omega⟩
 rw[if_neg h1]
 by_cases h2:k=2
 ·subst h2
  rw[if_pos rfl,okF_2]
  by_cases a:p=1
  ·rw[if_pos a];exact⟨_,rfl,by rw[bnot_iff];simp[a]⟩
  rw[if_neg a]
  by_cases b:p=2
  ·rw[if_pos b];exact⟨_,rfl,by rw[bnot_iff];simp[b]⟩
  rw[if_neg b]
  by_cases c:p=4
  ·rw[if_pos c];exact⟨_,rfl,by rw[bnot_iff];simp[c]⟩
  rw[if_neg c]
  exact⟨_,rfl,by simp[a,b,c]⟩
 rw[if_neg h2]
 by_cases h3:k=3
 ·subst h3
  rw[if_pos rfl,okF_3]
  exact⟨decide (p=0),by simp,by simp⟩
 rw[if_neg h3]
 by_cases h4:k=4
 ·subst h4
  rw[okF_4]
  exact⟨decide (p=0),by simp,by simp⟩
 by_cases h5:k=5
 ·subst h5
  rw[okF_5]
  by_cases hp:p=0
  ·exact⟨!o,by simp[hp],by rw[bnot_iff];simp[hp]⟩
  ·exact⟨false,by simp[hp],by simp[hp]⟩
 exact⟨false,by simp[h4,h5],by simp[okF_n h1 h2 h3 h4 h5]⟩
theorem iFil_out (f:DFil):∃ b,impl_ValidFilter f=some b∧(b=true↔okF f):=by
 obtain⟨k,p,o⟩:=f
 unfold impl_ValidFilter impl_ValidFilter_p1 impl_ValidFilter_p2 impl_isWidth
 simp only
 by_cases h1:k=1
 ·subst h1
  rw[if_pos rfl,pWi_out,obs,okF_1]
  by_cases hp:1≤p∧p≤24
  ·rw[decide_eq_true hp,if_pos rfl];exact⟨_,rfl,by rw[bnot_iff];simp[hp]⟩
  ·rw[decide_eq_false hp,if_neg (by simp)];exact⟨_,rfl,by simp;omega⟩
 rw[if_neg h1]
 by_cases h2:k=2
 ·subst h2
  rw[if_pos rfl,okF_2]
  by_cases a:p=1
  ·rw[if_pos a,obs,if_pos rfl];exact⟨_,rfl,by rw[bnot_iff];simp[a]⟩
  rw[if_neg a]
  by_cases b:p=2
  ·rw[if_pos b,obs,if_pos rfl];exact⟨_,rfl,by rw[bnot_iff];simp[b]⟩
  rw[if_neg b,obs]
  by_cases c:p=4
  ·rw[decide_eq_true c,if_pos rfl];exact⟨_,rfl,by rw[bnot_iff];simp[c]⟩
  rw[decide_eq_false c,if_neg (by simp)]
  exact⟨_,rfl,by simp[a,b,c]⟩
 rw[if_neg h2]
 by_cases h3:k=3
 ·subst h3
  rw[if_pos rfl,okF_3]
  exact⟨decide (p=0),by simp,by simp⟩
 rw[if_neg h3]
 by_cases h4:k=4
 ·subst h4
  rw[okF_4]
  exact⟨decide (p=0),by simp,by simp⟩
 by_cases h5:k=5
 ·subst h5
  rw[okF_5]
  by_cases hp:p=0
  ·exact⟨!o,by simp[hp],by rw[bnot_iff];simp[hp]⟩
  ·exact⟨false,by simp[hp],by simp[hp]⟩
 exact⟨false,by simp[h4,h5],by simp[okF_n h1 h2 h3 h4 h5]⟩
def VP (l:List DFil):Prop:=l.length≤4∧∀ f∈l,okF f
open Classical in
theorem sPip_out (l:List DFil) (h:l.length≤140737488355328):∃ b,spec_l19Ok l=some b∧(b=true↔VP l):=by
 unfold spec_l19Ok spec_l19Ok_l1
 rw[loop_mem l okF (fun s=>spec_l19Ok_l1_b l s) (.inl l) (.inr false) (fun i x hi hx hp=>?_) (fun i x hi hx hp=>?_) (by simp[spec_l19Ok_l1_b]),obs]
 ·by_cases ha:∀ x∈l,okF x
  ·rw[if_pos ha];exact⟨_,rfl,by rw[decide_eq_true_iff];exact⟨fun h=>⟨by omega,ha⟩,fun h=>by have:=h.1;omega⟩⟩
  ·rw[if_neg ha];exact⟨_,rfl,⟨fun h=>(by cases h),fun h=>absurd h.2 ha⟩⟩
 ·obtain⟨b,hb,hv⟩:=sFil_out x
  unfold spec_l19Ok_l1_b
  rw[if_pos (by omega),if_pos (by omega),Int.toNat_natCast,hx,obs,hb,obs,if_neg (by simp[hv.2 hp]),w1 (by omega)]
 ·obtain⟨b,hb,hv⟩:=sFil_out x
  unfold spec_l19Ok_l1_b
  rw[if_pos (by omega),if_pos (by omega),Int.toNat_natCast,hx,obs,hb,obs,if_pos (fun e=>hp (hv.1 e))]
theorem iPip_out (l:List DFil):∃ b,impl_ValidPipeline l=some b∧(b=true↔VP l):=by
 unfold impl_ValidPipeline
 by_cases h:(l.length:Int)≤4
 ·rw[if_pos h]
  unfold slices_ContainsFunc_impl_Filter_impl_Filter__ValidPipeline_c1 slices_IndexFunc_impl_Filter_impl_Filter__ValidPipeline_c1 slices_IndexFunc_impl_Filter_impl_Filter__ValidPipeline_c1_l1
  obtain⟨r,hr,hP⟩:=loop_find l okF (fun s=>slices_IndexFunc_impl_Filter_impl_Filter__ValidPipeline_c1_l1_b l (l.length:Int) s) () (fun i x hi hx hp=>by
   obtain⟨b,hb,hv⟩:=iFil_out x
   unfold slices_IndexFunc_impl_Filter_impl_Filter__ValidPipeline_c1_l1_b impl_ValidPipeline_c1
   rw[if_pos (by omega),if_pos (by omega),Int.toNat_natCast,hx,obs,hb,obs,obs,if_neg (by simp[hv.2 hp]),w1 (by omega)]) (fun i x hi hx hp=>by
   obtain⟨b,hb,hv⟩:=iFil_out x
   have hbf:b=false:=by cases b with |true=>exact absurd (hv.1 rfl) hp |false=>rfl
   unfold slices_IndexFunc_impl_Filter_impl_Filter__ValidPipeline_c1_l1_b impl_ValidPipeline_c1
   rw[if_pos (by omega),if_pos (by omega),Int.toNat_natCast,hx,obs,hb,obs,obs,hbf,if_pos (by simp)]) (by simp[slices_IndexFunc_impl_Filter_impl_Filter__ValidPipeline_c1_l1_b])
  rw[hr]
  rcases hP with ⟨rfl,ha⟩ |⟨k,rfl,hk,ha⟩
  ·exact⟨true,by simp,⟨fun _=>⟨by omega,ha⟩,fun _=>rfl⟩⟩
  ·refine⟨false,?_,⟨fun h=>(by cases h),fun h=>absurd h.2 ha⟩⟩
   simp only[obs,Sum.elim_inr]
   rw[decide_eq_true (by omega)];rfl
 ·rw[if_neg h];exact⟨_,rfl,⟨fun h=>(by cases h),fun q=>by have:=q.1;omega⟩⟩
def wdL:List Str:=[[],[115,104,117,102,102,108,101],[100,101,108,116,97],[114,117,110],[108,122],[115,117,109]]
def wd (k:Int):Str:=(wdL[k.toNat]?).getD []
def tF (f:DFil):Str:=wd f.1++(if f.2.1>0 then 40::(Lib.itoa f.2.1++[41]) else [])++(if f.2.2 then [63] else [])
def tP (l:List DFil):Str:=Lib.join (l.map tF) [43]
theorem okF.k {f:DFil} (h:okF f):(f.1=1∨f.1=2∨f.1=3∨f.1=4∨f.1=5)∧0≤f.2.1∧f.2.1≤24∧(f.2.1>0↔(f.1=1∨f.1=2)):=by unfold okF at h;omega
theorem wd_at {k:Int} (h:k=1∨k=2∨k=3∨k=4∨k=5):wdL[k.toNat]?=some (wd k)∧(wd k).length≤7∧1≤(wd k).length∧∀ b∈wd k,97≤b.toNat∧b.toNat≤122:=by
 rcases h with rfl |rfl |rfl |rfl |rfl <;> exact⟨rfl,by decide,by decide,by decide⟩
theorem tF_le {f:DFil} (h:okF f):(tF f).length≤31∧1≤(tF f).length:=by
 obtain⟨h1,h2,h3,h4⟩:=h.k
 have:=wd_at h1
 have hl:=itoa_le f.2.1 (by omega) (by omega)
 unfold tF
 simp only[List.length_append]
 have e1:(if f.2.1>0 then 40::(Lib.itoa f.2.1++[41]) else ([]:Str)).length≤23:=by split <;> simp;omega
 have e2:(if f.2.2=true then [63] else ([]:Str)).length≤1:=by split <;> simp
 omega
theorem tP_le {l:List DFil} (h:VP l):(tP l).length≤128:=by
 have:=join_le 31 [43] (l.map tF) (fun x hx=>by obtain⟨f,hf,rfl⟩:=List.mem_map.1 hx;exact (tF_le (h.2 f hf)).1)
 rw[List.length_map] at this
 have h1:=h.1
 simp only[List.length_cons,List.length_nil] at this
 unfold tP;omega
def noneT:Str:=[110,111,110,101]
theorem sPText_out (l:List DFil) (hl:l.length≤1000):(VP l∧spec_PipelineText l=some (if l=[] then noneT else tP l))∨(¬VP l∧spec_PipelineText l=some []):=by
 unfold spec_PipelineText
 obtain⟨b,hb,hv⟩:=sPip_out l (by omega)
 rw[hb,obs]
 cases b with
 |false=>exact .inr ⟨by simpa using hv,by simp⟩
 |true =>
  have h:=hv.1 rfl
  refine .inl ⟨h,?_⟩
  rw[if_neg (not_not_intro rfl)]
  by_cases h0:(l.length:Int)=0
  ·rw[if_pos h0,if_pos (List.eq_nil_of_length_eq_zero (by omega))];rfl
  rw[if_neg h0,if_neg (fun e=>h0 (by rw[e];rfl))]
  unfold spec_PipelineText_l1
  rw[loop_text l l tF [43] 31 (fun p hp=>(tF_le (h.2 p hp)).1) (fun s=>spec_PipelineText_l1_b s.1 s.2.1 s.2.2) (fun i x a hi hx ha=>?_) (fun a=>?_),obs]
  ·rfl
  ·have hf:=h.2 x (List.mem_of_getElem? hx)
   obtain⟨k1,k2,k3,k4⟩:=hf.k
   have hw:=wd_at k1
   have hl1:=itoa_le x.2.1 (by omega) (by omega)
   have hll:=h.1
   simp only[List.length_cons,List.length_nil] at ha
   have hp3:∀ b:Str,b.length≤1000000000→spec_PipelineText_p3 l b (i:Int) x=some (l,b++(if x.2.2 then [63] else []),(i:Int)):=fun b hb=>by
    unfold spec_PipelineText_p3
    cases x.2.2 with
    |true=>simp;omega
    |false=>simp
   have hp2:∀ b:Str,b.length≤100000000→spec_PipelineText_p2 l b (i:Int) x=some (l,b++tF x,(i:Int)):=fun b hb=>by
    unfold spec_PipelineText_p2 spec_l19Words
    have hx1:x.1<6∧0≤x.1:=by omega
    have hat:=hw.1
    unfold wdL at hat
    unfold lit
    rw[obs,if_pos ⟨by omega,by simp only[List.length_cons,List.length_nil];omega⟩,hat,obs,if_pos (by omega)]
    by_cases hp:x.2.1>0
    ·rw[if_pos hp,l05Digits_out _ (by omega) (by omega),obs,if_pos (by simp only[List.length_cons,List.length_nil];omega),if_pos (by simp only[List.length_append,List.length_cons,List.length_nil];omega),if_pos (by simp only[List.length_append,List.length_cons,List.length_nil];omega),hp3 _ (by simp only[List.length_append,List.length_cons,List.length_nil];omega),obs]
     unfold tF;rw[if_pos hp];simp
    ·rw[if_neg hp,hp3 _ (by simp only[List.length_append];omega),obs]
     unfold tF;rw[if_neg hp];simp
   have hwi:=w1 (i:=i) (by omega)
   unfold spec_PipelineText_l1_b
   rw[if_pos (by simp only;omega),if_pos (by simp only;omega)]
   simp only[Int.toNat_natCast,hx,obs]
   by_cases hi0:i=0
   ·subst hi0
    have:a=[]:=List.eq_nil_of_length_eq_zero (by omega)
    subst this
    rw[if_neg (by simp),hp2 _ (by simp),obs,if_pos rfl]
    rfl
   ·rw[if_pos (by omega),if_neg hi0,if_pos (by simp only[List.length_cons,List.length_nil];omega),hp2 _ (by simp only[List.length_append,List.length_cons,List.length_nil];omega),obs]
    simp only[hwi]
  ·unfold spec_PipelineText_l1_b
   rw[if_neg (by simp only;omega)]
theorem iFText_out (f:DFil) (h:okF f):impl_Filter_text f=some (tF f):=by
 obtain⟨k1,k2,k3,k4⟩:=h.k
 have hw:=wd_at k1
 have hl1:=itoa_le f.2.1 (by omega) (by omega)
 have hat:=hw.1
 unfold wdL at hat
 have hp2:∀ b:Str,b.length≤1000000000→impl_Filter_text_p2 f b=some (b++(if f.2.2 then [63] else [])):=fun b hb=>by
  unfold impl_Filter_text_p2
  cases f.2.2 with
  |true=>simp;omega
  |false=>simp
 have hp1:∀ b:Str,b.length≤1000000000→impl_Filter_text_p1 f b=some (f,b++40::(Lib.itoa f.2.1++[41])):=fun b hb=>by
  unfold impl_Filter_text_p1 impl_decimal
  have e:strconv_FormatInt f.2.1=some (Lib.itoa f.2.1):=by
   show fmtS _=_
   unfold fmtS;rw[if_pos (by omega)]
  rw[e,obs,obs,if_pos (by simp only[List.length_cons,List.length_nil];omega),if_pos (by simp only[List.length_append,List.length_cons,List.length_nil];omega),if_pos (by simp only[List.length_append,List.length_cons,List.length_nil];omega)]
  simp
 unfold impl_Filter_text
 rw[if_pos (by omega),hat,obs]
 unfold tF
 by_cases h1:f.1=1
 ·rw[if_pos h1,hp1 _ (by omega),obs,if_pos (k4.2 (.inl h1))]
  simp only
  rw[hp2 _ (by simp only[List.length_append,List.length_cons,List.length_nil];omega),obs]
 rw[if_neg h1]
 by_cases h2:f.1=2
 ·rw[if_pos h2,hp1 _ (by omega),obs,if_pos (k4.2 (.inr h2))]
  simp only
  rw[hp2 _ (by simp only[List.length_append,List.length_cons,List.length_nil];omega),obs]
 rw[if_neg h2,if_neg (fun hh=>by rcases k4.1 hh with hh |hh;exact h1 hh;exact h2 hh),hp2 _ (by omega),obs,List.append_nil]
theorem iPText_out (l:List DFil) (h:VP l) (hne:l≠[]):impl_pipelineText l=some (tP l):=by
 have hl:=h.1
 have hl0:l.length≠0:=fun e=>hne (List.eq_nil_of_length_eq_zero e)
 unfold impl_pipelineText impl_pipelineText_l1
 rw[if_neg (by omega),loop_map l tF (fun s=>impl_pipelineText_l1_b l (l.length:Int) s.1 s.2) (fun i x m hi hx hm=>?_) (fun m=>by simp[impl_pipelineText_l1_b]),obs]
 ·have h1:=tP_le h
  show (joinS (l.map tF) [43]).bind _=_
  unfold joinS
  unfold tP at h1 ⊢
  rw[if_pos (by rw[List.length_map];exact⟨by omega,by omega⟩)]
  rfl
 ·unfold impl_pipelineText_l1_b
  rw[if_pos (by simp only;omega),if_pos (by simp only;omega)]
  simp only[Int.toNat_natCast,hx,obs]
  rw[iFText_out x (h.2 x (List.mem_of_getElem? hx)),obs,appL_one 16 _ _ (by unfold maxRow;omega),obs,w1 (by omega)]
theorem index_out (l:List Str) (w:Str) (h:l.length≤1000):∃ r,slices_Index_string_string_ l w=some r∧-1≤r∧r<1000∧(∀ (i:Nat),l[i]?=some w→(∀ j,j<i→l[j]?≠some w)→r=(i:Int)):=by
 unfold slices_Index_string_string_ slices_Index_string_string__l1
 have key:=loop_ex (f:=fun s=>slices_Index_string_string__l1_b l w (l.length:Int) s) (fun r=>(r=.inl ()∧∀ j:Nat,l[j]?≠some w)∨(∃ k:Nat,r=.inr (k:Int)∧k<l.length∧l[k]?=some w∧∀ j,j<k→l[j]?≠some w)) l.length (fun i s=>s=(i:Int)∧∀ j,j<i→l[j]?≠some w) (fun i s hi hs=>?_) l.length 0 0 (by omega) ⟨rfl,fun j hj=>by omega⟩
 ·obtain⟨r,hr,hP⟩:=key
  rw[hr,obs]
  rcases hP with ⟨rfl,hall⟩ |⟨k,rfl,hk,hkw,hall⟩
  ·exact⟨-1,rfl,by omega,by omega,fun i hi _=>absurd hi (hall i)⟩
  ·refine⟨k,rfl,by omega,by omega,fun i hi hj=>?_⟩
   rcases Nat.lt_trichotomy i k with h1 |h1 |h1
   ·exact absurd hi (hall i h1)
   ·omega
   ·exact absurd hkw (hj k h1)
 ·obtain⟨rfl,hall⟩:=hs
  unfold slices_Index_string_string__l1_b
  by_cases hn:i<l.length
  ·obtain⟨x,hx⟩:=get_at hn
   rw[if_pos (by omega),if_pos (by omega),Int.toNat_natCast,hx,obs]
   by_cases he:w=x
   ·rw[if_pos he];exact .inl ⟨_,rfl,.inr ⟨i,rfl,hn,by rw[he];exact hx,hall⟩⟩
   ·rw[if_neg he,w1 (by omega)]
    refine .inr ⟨hn,_,rfl,by omega,fun j hj=>?_⟩
    by_cases hji:j=i
    ·subst hji;rw[hx];intro e;cases e;exact he rfl
    ·exact hall j (by omega)
  ·rw[if_neg (by omega)]
   exact .inl ⟨_,rfl,.inl ⟨rfl,fun j hj=>by
    have:=(List.getElem?_eq_some_iff.1 hj).1
    exact hall j (by omega) hj⟩⟩
theorem kinds_out {k:Int} (h:k=1∨k=2∨k=3∨k=4∨k=5):slices_Index_string_string_ (lit [([]:Str),[115,104,117,102,102,108,101],[100,101,108,116,97],[114,117,110],[108,122],[115,117,109]]) (wd k)=some k:=by
 obtain⟨r,hr,_,_,hi⟩:=index_out (lit [([]:Str),[115,104,117,102,102,108,101],[100,101,108,116,97],[114,117,110],[108,122],[115,117,109]]) (wd k) (by unfold lit;simp)
 rw[hr,hi k.toNat (wd_at h).1 (fun j hj=>by rcases h with rfl |rfl |rfl |rfl |rfl <;> (have hj':j<5:=by (simp at hj;omega)) <;> (rcases (by omega:j=0∨j=1∨j=2∨j=3∨j=4) with rfl |rfl |rfl |rfl |rfl) <;> first |(simp at hj;done) |(intro e;exact absurd e (by decide)))]
 congr 1;omega
theorem filP1_out (v:DScan) (a:DFil) (f:DFil):impl_scanner_filter_od0_p1 v a f=(impl_scanner_accept_o0b v [63]).bind fun r=>some (r.1,(f.1,f.2.1,r.2)):=rfl
theorem filter_any (s:Str) (b:Bool) (h:s.length≤1048576):∃ s' b' f,impl_scanner_filter_od0 (s,b)=some ((s',b'),f)∧s'.length≤s.length:=by
 obtain⟨e1,_,_⟩:=spnP_eq wc s
 have hl:(spnP wc s).1.length+(spnP wc s).2.length=s.length:=by have:=congrArg List.length e1;rwa [List.length_append] at this
 unfold impl_scanner_filter_od0
 rw[word_out s b h,obs]
 obtain⟨r,hr,_⟩:=index_out (lit [([]:Str),[115,104,117,102,102,108,101],[100,101,108,116,97],[114,117,110],[108,122],[115,117,109]]) (spnP wc s).1 (by unfold lit;simp)
 simp only
 rw[hr,obs]
 obtain⟨s1,k,e,l1⟩:=accept_any (spnP wc s).2 [40] b (by omega)
 simp only[e,obs]
 cases k with
 |true =>
  simp only[if_true]
  obtain⟨s2,b2,n,e2,l2,_⟩:=number_out s1 b (by omega)
  simp only[e2,obs]
  obtain⟨s3,b3,e3,l3,_⟩:=expect_any s2 [41] b2 (by omega)
  simp only[e3,obs,filP1_out]
  obtain⟨s4,k4,e4,l4⟩:=accept_any s3 [63] b3 (by omega)
  simp only[e4,obs]
  exact⟨_,_,_,rfl,by omega⟩
 |false =>
  simp only[Bool.false_eq_true,if_false,filP1_out]
  obtain⟨s4,k4,e4,l4⟩:=accept_any s1 [63] b (by omega)
  simp only[e4,obs]
  exact⟨_,_,_,rfl,by omega⟩
def AftF (t:Str):Prop:=t=[]∨∃ r,t=43::r
theorem filter_text {f:DFil} (h:okF f) (t:Str) (b:Bool) (ht:AftF t) (hs:(tF f++t).length≤1048576):impl_scanner_filter_od0 (tF f++t,b)=some ((t,b),f):=by
 obtain⟨k,p,o⟩:=f
 obtain⟨h1,h2,h3,h4⟩:=h.k
 simp only at h1 h2 h3 h4
 have hw:=wd_at h1
 have hwc:∀ x∈wd k,wc x:=fun x hx=>.inr (.inl (hw.2.2.2 x hx))
 have n40:∀ r,(if o then [63] else [])++t≠40::r:=by
  intro r
  rcases ht with rfl |⟨q,rfl⟩ <;> cases o <;> simp
 have hq:impl_scanner_accept_o0b ((if o then [63] else [])++t,b) [63]=some ((t,b),o):=by
  have hl:((if o then [63] else ([]:Str))++t).length≤1048576:=by
   unfold tF at hs
   simp only[List.append_assoc,List.length_append] at hs ⊢
   omega
  cases o with
  |true=>exact accept_hit [63] t b hl
  |false =>
   have hl:t.length≤1048576:=by simpa using hl
   have:impl_scanner_accept_o0b (t,b) [63]=some ((t,b),false):=accept_miss t [63] b hl (by rcases ht with rfl |⟨q,rfl⟩ <;> simp)
   simpa using this
 have nwc:∀ c:UInt8,c=40∨c=63∨c=43→¬wc c:=by rintro c (rfl |rfl |rfl) <;> decide
 have htw:∀ x r,(if o then [63] else [])++t=x::r→¬wc x:=by
  intro x r e
  rcases ht with rfl |⟨q,rfl⟩ <;> cases o <;> simp at e
  ·exact nwc x (.inr (.inl e.1.symm))
  ·exact nwc x (.inr (.inr e.1.symm))
  ·exact nwc x (.inr (.inl e.1.symm))
 unfold impl_scanner_filter_od0
 rw[word_out _ b hs]
 unfold tF at hs ⊢
 simp only[List.append_assoc] at hs ⊢
 by_cases h0:p>0
 ·rw[if_pos h0] at hs ⊢
  rw[spnP_of wc _ _ hwc (by intro x r e;cases e;exact nwc _ (.inl rfl))]
  simp only[obs]
  rw[kinds_out h1,obs]
  generalize hU:(if o then [63] else ([]:Str))++t=U at hs hq n40 htw ⊢
  have hl1:([40]++(Lib.itoa p++[41]++U)).length≤1048576:=by
   simp only[List.cons_append,List.append_assoc,List.length_append,List.length_cons,List.length_nil] at hs ⊢;omega
  have ea:impl_scanner_accept_o0b ((40::(Lib.itoa p++[41]))++U,b) [40]=some ((Lib.itoa p++([41]++U),b),true):=by
   have:=accept_hit [40] (Lib.itoa p++[41]++U) b hl1
   simpa using this
  rw[ea,obs]
  simp only[if_true]
  have hl2:(Lib.itoa p++([41]++U)).length≤1048576:=by simp only[List.append_assoc,List.length_append,List.length_cons,List.length_nil] at hl1 ⊢;omega
  rw[number_itoa p ([41]++U) b h2 (by omega) (by intro x r e;cases e;unfold nc isD;decide) hl2,obs]
  simp only
  rw[expect_hit [41] U b (by rw[List.length_append] at hl2;omega),obs,filP1_out,hq,obs,obs]
  simp only
  rw[show max 0 k=k by omega]
 ·rw[if_neg h0] at hs ⊢
  rw[List.nil_append] at hs ⊢
  generalize hU:(if o then [63] else ([]:Str))++t=U at hs hq n40 htw ⊢
  rw[spnP_of wc _ _ hwc htw]
  simp only[obs]
  rw[kinds_out h1,obs,accept_miss U [40] b (by rw[List.length_append] at hs;omega) (by
   cases U with
   |nil=>simp
   |cons x r =>
    intro e
    simp at e
    exact n40 r (by rw[e])),obs]
  simp only[Bool.false_eq_true,if_false]
  rw[filP1_out,hq,obs,obs]
  simp only
  rw[show max 0 k=k by omega,show p=0 by omega]
theorem rdIL_any (s0 s:Str) (b:Bool) (f:DFil) (h:s.length≤1048576):∃ v l,impl_ReadPipeline_l1 s0 ((s,b),[f])=some (s0,v,l)∧l≠[]∧l.length≤1048577:=by
 unfold impl_ReadPipeline_l1
 have key:=loop_ex (f:=fun t:DScan×List DFil=>impl_ReadPipeline_l1_b s0 t.1 t.2) (fun r=>∃ v l,r=(s0,v,l)∧l≠[]∧l.length≤1048577) s.length (fun i t=>t.1.1.length+i≤s.length∧t.2≠[]∧t.2.length=i+1) (fun i t hi ht=>?_) s.length 0 ((s,b),[f]) (by omega) ⟨by simp,by simp,rfl⟩
 ·obtain⟨r,hr,v,l,rfl,h1,h2⟩:=key
  exact⟨v,l,hr,h1,h2⟩
 ·obtain⟨⟨r,b⟩,l⟩:=t
  obtain⟨h1,h2,h3⟩:=ht
  simp only at h1 h2 h3
  unfold impl_ReadPipeline_l1_b
  cases b with
  |true=>exact .inl ⟨_,by simp;rfl,_,_,rfl,h2,by omega⟩
  |false =>
   simp only
   rw[if_pos (by simp),accept_out r [43] false (by omega),obs]
   by_cases hc:([43]:Str).length≤r.length∧r.take ([43]:Str).length=[43]
   ·rw[if_pos hc]
    have hr1:1≤r.length:=hc.1
    simp only[if_true,List.length_singleton]
    obtain⟨s',b',g,e,l1⟩:=filter_any (r.drop 1) false (by rw[List.length_drop];omega)
    rw[List.length_drop] at l1
    rw[e,obs,appL_one 24 _ _ (by unfold maxRow;omega),obs]
    exact .inr ⟨by omega,_,rfl,by simp only;omega,by simp,by simp;omega⟩
   ·rw[if_neg hc]
    exact .inl ⟨_,by simp;rfl,_,_,rfl,h2,by omega⟩
def rstF (l:List DFil) (i:Nat):Str:=Lib.joinTail [43] ((l.drop i).map tF)
theorem rstF_at {l:List DFil} {i:Nat} {f:DFil} (h:l[i]?=some f):rstF l i=43::(tF f++rstF l (i+1)):=by
 unfold rstF
 have:l.drop i=f::l.drop (i+1):=by
  rw[List.drop_eq_getElem_cons (List.getElem?_eq_some_iff.1 h).1,(List.getElem?_eq_some_iff.1 h).2]
 rw[this];simp[Lib.joinTail]
theorem rstF_aft (l:List DFil) (i:Nat):AftF (rstF l i):=by
 by_cases h:i<l.length
 ·obtain⟨f,hf⟩:=get_at h
  exact .inr ⟨_,rstF_at hf⟩
 ·left;unfold rstF;rw[List.drop_eq_nil_of_le (by omega)];rfl
theorem rdIL_text (s0:Str) (l:List DFil) (f:DFil) (r:List DFil) (hl:l=f::r) (h:VP l) (hs:(rstF l 1).length≤1048576):impl_ReadPipeline_l1 s0 ((rstF l 1,false),[f])=some (s0,([],false),l):=by
 unfold impl_ReadPipeline_l1
 have hlen:1≤l.length:=by rw[hl];simp
 refine loop_some (l.length-1) (fun i t=>t=((rstF l (i+1),false),l.take (i+1))∧(rstF l (i+1)).length≤1048576) (fun i t hi ht=>?_) (l.length-1) 0 _ (by omega) ⟨by rw[hl];rfl,hs⟩
 obtain⟨rfl,hrl⟩:=ht
 unfold impl_ReadPipeline_l1_b
 simp only
 rw[if_pos (by simp)]
 by_cases hn:i<l.length-1
 ·obtain⟨g,hg⟩:=get_at (show i+1<l.length by omega)
  have ea:=rstF_at hg
  rw[ea] at hrl ⊢
  have hrl2:(tF g++rstF l (i+1+1)).length≤1048576:=by simp only[List.length_cons] at hrl;omega
  have e1:impl_scanner_accept_o0b (43::(tF g++rstF l (i+1+1)),false) [43]=some ((tF g++rstF l (i+1+1),false),true):=accept_hit [43] _ false hrl
  rw[e1,obs]
  simp only[if_true]
  rw[filter_text (h.2 g (List.mem_of_getElem? hg)) _ false (rstF_aft _ _) hrl2,obs,appL_one 24 _ _ (by rw[List.length_take];unfold maxRow;have:=h.1;omega),obs]
  refine .inr ⟨hn,_,rfl,?_,by rw[List.length_append] at hrl2;omega⟩
  rw[List.take_add_one (i:=i+1),hg];rfl
 ·have hi':i+1=l.length:=by omega
  refine .inl ?_
  have he:rstF l (i+1)=[]:=by unfold rstF;rw[List.drop_eq_nil_of_le (by omega)];rfl
  rw[he,accept_miss [] [43] false (by simp) (by simp),obs,if_neg (by simp),List.take_of_length_le (by omega)]
theorem rdPI_out (s:Str) (hs:s.length≤1048576) (hn:s≠noneT):(∃ l,VP l∧l≠[]∧tP l=s∧impl_ReadPipeline s=some (l,true))∨((¬∃ l,VP l∧l≠[]∧tP l=s)∧impl_ReadPipeline s=some ([],false)):=by
 unfold impl_ReadPipeline
 rw[if_neg (show ¬s=[110,111,110,101] from hn)]
 obtain⟨s1,b1,f1,e1,l1⟩:=filter_any s false hs
 rw[e1,obs]
 simp only
 obtain⟨⟨s2,b2⟩,l,e2,l2,l3⟩:=rdIL_any s s1 b1 f1 (by omega)
 have hlit:(lit [(f1.1,f1.2.1,f1.2.2)]:List DFil)=[f1]:=rfl
 rw[hlit,e2,obs]
 have back:(∃ m,VP m∧m≠[]∧tP m=s)→b2=false∧VP l∧tP l=s:=by
  rintro⟨m,hm,hne,rfl⟩
  obtain⟨f,r,rfl⟩:=List.exists_cons_of_ne_nil hne
  have et:tP (f::r)=tF f++rstF (f::r) 1:=by unfold tP rstF;rw[List.map_cons,Lib.join_cons];rfl
  rw[et] at e1 hs
  rw[filter_text (hm.2 f List.mem_cons_self) _ false (rstF_aft _ _) hs] at e1
  simp only[Option.some.injEq,Prod.mk.injEq] at e1
  obtain⟨⟨rfl,rfl⟩,rfl⟩:=e1
  rw[rdIL_text _ (f::r) f r rfl hm (by rw[List.length_append] at hs;omega)] at e2
  cases e2
  exact⟨rfl,hm,rfl⟩
 cases b2 with
 |true=>exact .inr ⟨fun h=>(by cases (back h).1),by simp⟩
 |false =>
  simp only[Bool.false_eq_true,if_false]
  obtain⟨c,hc,hv⟩:=iPip_out l
  rw[hc,obs]
  cases c with
  |false=>exact .inr ⟨fun h=>(by have:=hv.2 (back h).2.1;cases this),by simp⟩
  |true =>
   have hx:=hv.1 rfl
   rw[if_neg (by simp),iPText_out l hx l2,obs]
   by_cases ht:tP l=s
   ·exact .inl ⟨l,hx,l2,ht,by rw[if_neg (by simpa using ht)]⟩
   ·exact .inr ⟨fun h=>ht (back h).2.2,by rw[if_pos ht]⟩
theorem loop_build {β:Type} (n:Nat) (g:Nat→β) (f:List β×Int→Option ((List β×Int) ⊕ List β))
  (h1:∀ i:Nat,i<n→f ((List.range i).map g,(i:Int))=some (.inl ((List.range (i+1)).map g,(i:Int)+1)))
  (h2:f ((List.range n).map g,(n:Int))=some (.inr ((List.range n).map g))):loopO f ([],0)=some ((List.range n).map g):=by
 refine loop_some n (fun i s=>s=((List.range i).map g,(i:Int))) (fun i s hi hs=>?_) n 0 _ (by omega) rfl
 subst hs
 by_cases hn:i<n
 ·exact .inr ⟨hn,_,h1 i hn,by simp⟩
 ·have:i=n:=by omega
  subst this;exact .inl h2
theorem loop_fill {β:Type} (n:Nat) (g:Nat→β) (f:List β×Int→Option ((List β×Int) ⊕ List β)) (m:List β) (hm:m.length=n)
  (h1:∀ (m:List β) (i:Nat),i<n→m.length=n→f (m,(i:Int))=some (.inl (m.set i (g i),(i:Int)+1)))
  (h2:∀ m:List β,m.length=n→f (m,(n:Int))=some (.inr m)):loopO f (m,0)=some ((List.range n).map g):=by
 refine loop_some n (fun i s=>s.2=(i:Int)∧s.1.length=n∧∀ j,j<i→s.1[j]?=some (g j)) (fun i s hi hs=>?_) n 0 _ (by omega) ⟨rfl,hm,fun j hj=>by omega⟩
 obtain⟨m,k⟩:=s
 obtain⟨rfl,hml,hall⟩:=hs
 simp only at hml hall ⊢
 by_cases hn:i<n
 ·refine .inr ⟨hn,_,h1 m i hn hml,by simp,by simp[hml],fun j hj=>?_⟩
  by_cases hji:j=i
  ·subst hji;simp only;rw[List.getElem?_set_self (by omega)]
  ·simp only;rw[List.getElem?_set_ne (by omega)];exact hall j (by omega)
 ·have:i=n:=by omega
  subst this
  refine .inl ?_
  rw[h2 m hml]
  congr 2
  apply List.ext_getElem?
  intro j
  by_cases hj:j<i
  ·rw[hall j hj];simp[hj]
  ·rw[List.getElem?_eq_none (by omega),List.getElem?_eq_none (by simp;omega)]
theorem u8_wrap_eq (y:Int):IntKind.u8.wrap y=y % 256:=by simp[IntKind.wrap,IntKind.bits,IntKind.signed]
theorem u64_wrap_in {y:Int} (h:0≤y) (h':y<18446744073709551616):IntKind.u64.wrap y=y:=by simp[IntKind.wrap,IntKind.bits,IntKind.signed];omega
theorem and255 (y:Int) (h:-9223372036854775808≤y) (h':y≤9223372036854775807):bitV .and .i64 y 255=y % 256:=by
 have e:((BitVec.ofInt 64 y &&& BitVec.ofInt 64 255).toNat:Int)=y % 256:=by
  rw[BitVec.toNat_and,BitVec.toNat_ofInt,BitVec.toNat_ofInt]
  have:((255:Int) % ((2 ^ 64:Nat):Int)).toNat=2 ^ 8-1:=by decide
  rw[this,Nat.and_two_pow_sub_one_eq_mod]
  omega
 show (bitsI .and .i64 y 255).getD 0=_
 show IntKind.i64.wrap ((BitVec.ofInt 64 y &&& BitVec.ofInt 64 255).toNat:Int)=_
 rw[e]
 exact wrap_in (by omega) (by omega)
def byB (n:Int) (j:Nat):Bt:=⟨UInt8.ofNat ((shrV .i64 n (8*(j:Int))) % 256).toNat⟩
def leB (n:Int) (k:Nat):Str:=(List.range k).map fun j=>(byB n j).v
@[simp] theorem leB_length (n:Int) (k:Nat):(leB n k).length=k:=by simp[leB]
theorem leB_map (n:Int) (k:Nat):((List.range k).map (byB n)).map Bt.v=leB n k:=by simp[leB,Function.comp_def]
theorem shr_in {n:Int} (c:Int) (h:-9223372036854775808≤n) (h':n≤9223372036854775807):-9223372036854775808≤shrV .i64 n c∧shrV .i64 n c≤9223372036854775807:=by
 unfold shrV
 rw[Int.fdiv_eq_ediv_of_nonneg _ (by exact Int.pow_nonneg (by omega))]
 have hp:(0:Int)<2 ^ (min c.toNat (IntKind.bits .i64)):=Int.pow_pos (by omega)
 generalize (2:Int) ^ (min c.toNat (IntKind.bits .i64))=p at hp
 constructor
 ·rcases Int.lt_or_le n 0 with h0 |h0
  ·exact Int.le_ediv_of_mul_le hp (by omega)
  ·exact Int.le_trans (by omega) (Int.ediv_nonneg h0 (by omega))
 ·rcases Int.lt_or_le n 0 with h0 |h0
  ·have:=Int.ediv_neg_of_neg_of_pos h0 hp
   omega
  ·exact Int.le_trans (Int.ediv_le_self _ h0) h'
theorem putBytes_out (n:Int) (k:Nat) (hk:k≤8):impl_putBytes n k=some (leB n k):=by
 unfold impl_putBytes impl_putBytes_l1
 rw[mkL_ok 1 _ _ (by unfold maxRow;omega) (by unfold maxRow;omega),obs]
 rw[loop_fill k (byB n) (fun s=>impl_putBytes_l1_b n _ s.1 s.2) _ (by simp) (fun m i hi hm=>?_) (fun m hm=>?_)]
 ·rw[obs,leB_map]
 ·simp only[impl_putBytes_l1_b]
  obtain⟨x,hx⟩:=get_at (l:=m) (by omega:i<m.length)
  rw[List.length_replicate,if_pos (by omega),wrap_in (n:=8*(i:Int)) (by omega) (by omega),if_neg (by omega),if_pos (by omega),Int.toNat_natCast,hx,obs,w1 (by omega),u8_wrap_eq]
  rfl
 ·simp only[impl_putBytes_l1_b]
  rw[List.length_replicate,if_neg (by omega)]
theorem l01Bytes_out (n:Int) (k:Nat) (hk:k≤8) (h:-9223372036854775808≤n) (h':n≤9223372036854775807):spec_l01Bytes n k=some (leB n k):=by
 unfold spec_l01Bytes spec_l01Bytes_l1
 rw[loop_build k (byB n) (fun s=>spec_l01Bytes_l1_b n k s.1 s.2) (fun i hi=>?_) (by simp[spec_l01Bytes_l1_b])]
 ·rw[obs,leB_map]
 ·simp only[spec_l01Bytes_l1_b]
  rw[if_pos (by omega),u64_wrap_in (y:=(i:Int)) (by omega) (by omega),u64_wrap_in (by omega) (by omega),if_neg (by omega)]
  have hs:=shr_in (8*(i:Int)) h h'
  rw[and255 _ hs.1 hs.2,u8_wrap_eq,show (shrV .i64 n (8*(i:Int))) % 256 % 256=(shrV .i64 n (8*(i:Int))) % 256 by omega]
  unfold appL
  rw[if_pos (by simp[lit,maxRow];omega),obs,w1 (by omega)]
  simp[List.range_succ,lit,byB]
def leN:Str→Nat
 |[]=>0
 |b::s=>b.toNat+256*leN s
theorem leN_lt:∀ s:Str,leN s<256 ^ s.length
 |[]=>by simp[leN]
 |b::s=>by
  have:=leN_lt s
  have hb:b.toNat<256:=b.toNat_lt
  simp only[leN,List.length_cons,Nat.pow_succ]
  omega
theorem leN_append:∀ (s t:Str),leN (s++t)=leN s+256 ^ s.length*leN t
 |[],t=>by simp[leN]
 |b::s,t=>by
  simp only[List.cons_append,leN,leN_append s t,List.length_cons,Nat.pow_succ,Nat.mul_add]
  rw[show 256 ^ s.length*256*leN t=256*(256 ^ s.length*leN t) by rw[Nat.mul_comm (256 ^ s.length) 256,Nat.mul_assoc]]
  omega
theorem pow256 (i:Nat):(2:Int) ^ (8*i)=((256 ^ i:Nat):Int):=by
 rw[Int.pow_mul];simp
theorem p256_lt {i:Nat} (h:i<8):256*256 ^ i≤18446744073709551616:=by
 have:256 ^ i≤256 ^ 7:=Nat.pow_le_pow_right (by omega) (by omega)
 have:(256:Nat) ^ 7=72057594037927936:=by decide
 omega
theorem or_u64 (x b i:Nat) (hx:x<256 ^ i) (hb:b<256) (hi:i<8):bitV .or .u64 (x:Int) (shlV .u64 (b:Int) (8*(i:Int)))=((x+256 ^ i*b:Nat):Int):=by
 have hp:=p256_lt hi
 have hbm:256 ^ i*b≤256 ^ i*255:=Nat.mul_le_mul_left _ (by omega)
 have e1:shlV .u64 (b:Int) (8*(i:Int))=((256 ^ i*b:Nat):Int):=by
  unfold shlV
  rw[show min (8*(i:Int)).toNat (IntKind.bits .u64)=8*i by show min (8*(i:Int)).toNat 64=_;omega,pow256]
  rw[← Int.natCast_mul,Nat.mul_comm]
  exact u64_wrap_in (by omega) (by omega)
 rw[e1]
 show IntKind.u64.wrap ((BitVec.ofInt 64 (x:Int) |||BitVec.ofInt 64 ((256 ^ i*b:Nat):Int)).toNat:Int)=_
 have e2:(BitVec.ofInt 64 (x:Int) |||BitVec.ofInt 64 ((256 ^ i*b:Nat):Int)).toNat=x+256 ^ i*b:=by
  rw[BitVec.toNat_or,BitVec.toNat_ofInt,BitVec.toNat_ofInt]
  rw[show (((x:Nat):Int) % ((2 ^ 64:Nat):Int)).toNat=x by omega,show (((256 ^ i*b:Nat):Int) % ((2 ^ 64:Nat):Int)).toNat=256 ^ i*b by omega]
  have h2:(256:Nat) ^ i=2 ^ (8*i):=by rw[Nat.pow_mul]
  rw[h2] at hx ⊢
  rw[Nat.or_comm,← Nat.two_pow_add_eq_or_of_lt hx]
  omega
 rw[e2]
 exact u64_wrap_in (by omega) (by omega)
theorem getBits_out (s:Str) (h:s.length≤8):impl_getBits s=some (leN s:Int):=by
 unfold impl_getBits impl_getBits_l1
 rw[loop_some (f:=fun t=>impl_getBits_l1_b s s.length t.1 t.2) (r:=(leN s:Int)) s.length (fun i t=>t=((leN (s.take i):Int),(i:Int))) (fun i t hi ht=>?_) s.length 0 _ (by omega) (by simp[leN])]
 ·rfl
 ·subst ht
  simp only[impl_getBits_l1_b]
  by_cases hn:i<s.length
  ·obtain⟨b,hb⟩:=get_at hn
   rw[if_pos (by omega),if_pos (by omega),Int.toNat_natCast,hb,obs,wrap_in (n:=8*(i:Int)) (by omega) (by omega),if_neg (by omega),u64_wrap_in (by omega) (by have:=b.toNat_lt;omega)]
   refine .inr ⟨hn,_,rfl,?_⟩
   have ht:s.take (i+1)=s.take i++[b]:=by rw[List.take_add_one,hb];rfl
   have hl:(s.take i).length=i:=by simp;omega
   have hlt:=leN_lt (s.take i)
   rw[hl] at hlt
   rw[or_u64 _ _ _ hlt b.toNat_lt (by omega),ht,leN_append,hl,w1 (by omega)]
   simp[leN]
  ·have:i=s.length:=by omega
   subst this
   rw[if_neg (by omega),List.take_length]
   exact .inl rfl
end Go.Proofs.TM
