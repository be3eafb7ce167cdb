import Derived.Test.YtlajjnljeebkkaaDoorLDig
import Derived.Test.YtlajjnljeebkkaaDoorLSplitS
namespace Go.Proofs.TM
open Go Go.Proofs
set_option maxHeartbeats 1000000
abbrev DFil:=Int×Int×Bool
def okF (f:DFil):Prop:=(f.1=1∧(1≤f.2.1∧f.2.1≤24)∧f.2.2=false)∨(f.1=2∧(f.2.1=1∨f.2.1=2∨f.2.1=4)∧f.2.2=false)∨(f.1=3∧f.2.1=0)∨(f.1=4∧f.2.1=0)∨(f.1=5∧f.2.1=0∧f.2.2=false)
theorem okF_1 {p:Int} {o:Bool}:okF (1,p,o)↔(1≤p∧p≤24)∧o=false:=by simp[okF]
theorem okF_2 {p:Int} {o:Bool}:okF (2,p,o)↔(p=1∨p=2∨p=4)∧o=false:=by simp[okF]
theorem okF_3 {p:Int} {o:Bool}:okF (3,p,o)↔p=0:=by simp[okF]
theorem okF_4 {p:Int} {o:Bool}:okF (4,p,o)↔p=0:=by simp[okF]
theorem okF_5 {p:Int} {o:Bool}:okF (5,p,o)↔p=0∧o=false:=by simp[okF]
theorem okF_n {k p:Int} {o:Bool} (h1:¬k=1) (h2:¬k=2) (h3:¬k=3) (h4:¬k=4) (h5:¬k=5):¬okF (k,p,o):=by simp[okF,h1,h2,h3,h4,h5]
theorem bnot_iff {o:Bool}:((!o)=true)↔o=false:=by cases o <;> simp
theorem pIn_out (n a b:Int):spec_l00In n a b=some (decide (a≤n∧n≤b)):=by
 unfold spec_l00In
 by_cases h:n≥a
 ·rw[if_pos h];exact dI (by omega)
 ·rw[if_neg h];exact dF (by omega)
theorem pWi_out (n a b:Int):impl_within n a b=some (decide (a≤n∧n≤b)):=by
 unfold impl_within
 by_cases h:n≥a
 ·rw[if_pos h];exact dI (by omega)
 ·rw[if_neg h];exact dF (by omega)
theorem sFil_out (f:DFil):∃ b,spec_l18Ok f=some b∧(b=true↔okF f):=by
 obtain⟨k,p,o⟩:=f
 unfold spec_l18Ok spec_l18Ok_p1 spec_l18Ok_p2
 simp only
 by_cases h1:k=1
 ·subst h1
  rw[if_pos rfl,pIn_out,obs,okF_1]
  by_cases hp:1≤p∧p≤24
  ·rw[decide_eq_true hp,if_pos rfl];exact⟨_,rfl,by rw[bnot_iff];simp[hp]⟩
  ·rw[decide_eq_false hp,if_neg (by simp)];exact⟨_,rfl,by simp;omega⟩
 rw[if_neg h1]
 by_cases h2:k=2
 ·subst h2
  rw[if_pos rfl,okF_2]
  by_cases a:p=1
  ·rw[if_pos a];exact⟨_,rfl,by rw[bnot_iff];simp[a]⟩
  rw[if_neg a]
  by_cases b:p=2
  ·rw[if_pos b];exact⟨_,rfl,by rw[bnot_iff];simp[b]⟩
  rw[if_neg b]
  by_cases c:p=4
  ·rw[if_pos c];exact⟨_,rfl,by rw[bnot_iff];simp[c]⟩
  rw[if_neg c]
  exact⟨_,rfl,by simp[a,b,c]⟩
 rw[if_neg h2]
 by_cases h3:k=3
 ·subst h3
  rw[if_pos rfl,okF_3]
  exact⟨decide (p=0),by simp,by simp⟩
 rw[if_neg h3]
 by_cases h4:k=4
 ·subst h4
  rw[okF_4]
  exact⟨decide (p=0),by simp,by simp⟩
 by_cases h5:k=5
 ·subst h5
  rw[okF_5]
  by_cases hp:p=0
  ·exact⟨!o,by simp[hp],by rw[bnot_iff];simp[hp]⟩
  ·exact⟨false,by simp[hp],by simp[hp]⟩
 exact⟨false,by simp[h4,h5],by simp[okF_n h1 h2 h3 h4 h5]⟩
theorem iFil_out (f:DFil):∃ b,impl_ValidFilter f=some b∧(b=true↔okF f):=by
 obtain⟨k,p,o⟩:=f
 unfold impl_ValidFilter impl_ValidFilter_p1 impl_ValidFilter_p2 impl_isWidth
 simp only
 by_cases h1:k=1
 ·subst h1
  rw[if_pos rfl,pWi_out,obs,okF_1]
  by_cases hp:1≤p∧p≤24
  ·rw[decide_eq_true hp,if_pos rfl];exact⟨_,rfl,by rw[bnot_iff];simp[hp]⟩
  ·rw[decide_eq_false hp,if_neg (by simp)];exact⟨_,rfl,by simp;omega⟩
 rw[if_neg h1]
 by_cases h2:k=2
 ·subst h2
  rw[if_pos rfl,okF_2]
  by_cases a:p=1
  ·rw[if_pos a,obs,if_pos rfl];exact⟨_,rfl,by rw[bnot_iff];simp[a]⟩
  rw[if_neg a]
  by_cases b:p=2
  ·rw[if_pos b,obs,if_pos rfl];exact⟨_,rfl,by rw[bnot_iff];simp[b]⟩
  rw[if_neg b,obs]
  by_cases c:p=4
  ·rw[decide_eq_true c,if_pos rfl];exact⟨_,rfl,by rw[bnot_iff];simp[c]⟩
  rw[decide_eq_false c,if_neg (by simp)]
  exact⟨_,rfl,by simp[a,b,c]⟩
 rw[if_neg h2]
 by_cases h3:k=3
 ·subst h3
  rw[if_pos rfl,okF_3]
  exact⟨decide (p=0),by simp,by simp⟩
 rw[if_neg h3]
 by_cases h4:k=4
 ·subst h4
  rw[okF_4]
  exact⟨decide (p=0),by simp,by simp⟩
 by_cases h5:k=5
 ·subst h5
  rw[okF_5]
  by_cases hp:p=0
  ·exact⟨!o,by simp[hp],by rw[bnot_iff];simp[hp]⟩
  ·exact⟨false,by simp[hp],by simp[hp]⟩
 exact⟨false,by simp[h4,h5],by simp[okF_n h1 h2 h3 h4 h5]⟩
def VP (l:List DFil):Prop:=l.length≤4∧∀ f∈l,okF f
open Classical in
theorem sPip_out (l:List DFil) (h:l.length≤140737488355328):∃ b,spec_l19Ok l=some b∧(b=true↔VP l):=by
 unfold spec_l19Ok spec_l19Ok_l1
 rw[loop_mem l okF (fun s=>spec_l19Ok_l1_b l s) (.inl l) (.inr false) (fun i x hi hx hp=>?_) (fun i x hi hx hp=>?_) (by simp[spec_l19Ok_l1_b]),obs]
 ·by_cases ha:∀ x∈l,okF x
  ·rw[if_pos ha];exact⟨_,rfl,by rw[decide_eq_true_iff];exact⟨fun h=>⟨by omega,ha⟩,fun h=>by have:=h.1;omega⟩⟩
  ·rw[if_neg ha];exact⟨_,rfl,⟨fun h=>(by cases h),fun h=>absurd h.2 ha⟩⟩
 ·obtain⟨b,hb,hv⟩:=sFil_out x
  unfold spec_l19Ok_l1_b
  rw[if_pos (by omega),if_pos (by omega),Int.toNat_natCast,hx,obs,hb,obs,if_neg (by simp[hv.2 hp]),w1 (by omega)]
 ·obtain⟨b,hb,hv⟩:=sFil_out x
  unfold spec_l19Ok_l1_b
  rw[if_pos (by omega),if_pos (by omega),Int.toNat_natCast,hx,obs,hb,obs,if_pos (fun e=>hp (hv.1 e))]
theorem iPip_out (l:List DFil):∃ b,impl_ValidPipeline l=some b∧(b=true↔VP l):=by
 unfold impl_ValidPipeline
 by_cases h:(l.length:Int)≤4
 ·rw[if_pos h]
  unfold slices_ContainsFunc_impl_Filter_impl_Filter__ValidPipeline_c1 slices_IndexFunc_impl_Filter_impl_Filter__ValidPipeline_c1 slices_IndexFunc_impl_Filter_impl_Filter__ValidPipeline_c1_l1
  obtain⟨r,hr,hP⟩:=loop_find l okF (fun s=>slices_IndexFunc_impl_Filter_impl_Filter__ValidPipeline_c1_l1_b l (l.length:Int) s) () (fun i x hi hx hp=>by
   obtain⟨b,hb,hv⟩:=iFil_out x
   unfold slices_IndexFunc_impl_Filter_impl_Filter__ValidPipeline_c1_l1_b impl_ValidPipeline_c1
   rw[if_pos (by omega),if_pos (by omega),Int.toNat_natCast,hx,obs,hb,obs,obs,if_neg (by simp[hv.2 hp]),w1 (by omega)]) (fun i x hi hx hp=>by
   obtain⟨b,hb,hv⟩:=iFil_out x
   have hbf:b=false:=by cases b with |true=>exact absurd (hv.1 rfl) hp |false=>rfl
   unfold slices_IndexFunc_impl_Filter_impl_Filter__ValidPipeline_c1_l1_b impl_ValidPipeline_c1
   rw[if_pos (by omega),if_pos (by omega),Int.toNat_natCast,hx,obs,hb,obs,obs,hbf,if_pos (by simp)]) (by simp[slices_IndexFunc_impl_Filter_impl_Filter__ValidPipeline_c1_l1_b])
  rw[hr]
  rcases hP with ⟨rfl,ha⟩ |⟨k,rfl,hk,ha⟩
  ·exact⟨true,by simp,⟨fun _=>⟨by omega,ha⟩,fun _=>rfl⟩⟩
  ·refine⟨false,?_,⟨fun h=>(by cases h),fun h=>absurd h.2 ha⟩⟩
   simp only[obs,Sum.elim_inr]
   rw[decide_eq_true (by omega)];rfl
 ·rw[if_neg h];exact⟨_,rfl,⟨fun h=>(by cases h),fun q=>by have:=q.1;omega⟩⟩
def wdL:List Str:=[[],[115,104,117,102,102,108,101],[100,101,108,116,97],[114,117,110],[108,122],[115,117,109]]
def wd (k:Int):Str:=(wdL[k.toNat]?).getD []
def tF (f:DFil):Str:=wd f.1++(if f.2.1>0 then 40::(Lib.itoa f.2.1++[41]) else [])++(if f.2.2 then [63] else [])
def tP (l:List DFil):Str:=Lib.join (l.map tF) [43]
theorem okF.k {f:DFil} (h:okF f):(f.1=1∨f.1=2∨f.1=3∨f.1=4∨f.1=5)∧0≤f.2.1∧f.2.1≤24∧(f.2.1>0↔(f.1=1∨f.1=2)):=by unfold okF at h;omega
theorem wd_at {k:Int} (h:k=1∨k=2∨k=3∨k=4∨k=5):wdL[k.toNat]?=some (wd k)∧(wd k).length≤7∧1≤(wd k).length∧∀ b∈wd k,97≤b.toNat∧b.toNat≤122:=by
 rcases h with rfl |rfl |rfl |rfl |rfl <;> exact⟨rfl,by decide,by decide,by decide⟩
theorem tF_le {f:DFil} (h:okF f):(tF f).length≤31∧1≤(tF f).length:=by
 obtain⟨h1,h2,h3,h4⟩:=h.k
 have:=wd_at h1
 have hl:=itoa_le f.2.1 (by omega) (by omega)
 unfold tF
 simp only[List.length_append]
 have e1:(if f.2.1>0 then 40::(Lib.itoa f.2.1++[41]) else ([]:Str)).length≤23:=by split <;> simp;omega
 have e2:(if f.2.2=true then [63] else ([]:Str)).length≤1:=by split <;> simp
 omega
theorem tP_le {l:List DFil} (h:VP l):(tP l).length≤128:=by
 have:=join_le 31 [43] (l.map tF) (fun x hx=>by obtain⟨f,hf,rfl⟩:=List.mem_map.1 hx;exact (tF_le (h.2 f hf)).1)
 rw[List.length_map] at this
 have h1:=h.1
 simp only[List.length_cons,List.length_nil] at this
 unfold tP;omega
theorem tP_ne {l:List DFil} (h:VP l) (hne:l≠[]):tP l≠[]:=by
 cases l with
 |nil=>exact absurd rfl hne
 |cons f r =>
  have:=(tF_le (h.2 f List.mem_cons_self)).2
  intro hh
  unfold tP at hh
  rw[List.map_cons,Lib.join_cons] at hh
  have:=congrArg List.length hh
  rw[List.length_append,List.length_nil] at this
  omega
def noneT:Str:=[110,111,110,101]
theorem sPText_out (l:List DFil) (hl:l.length≤1000):(VP l∧spec_PipelineText l=some (if l=[] then noneT else tP l))∨(¬VP l∧spec_PipelineText l=some []):=by
 unfold spec_PipelineText
 obtain⟨b,hb,hv⟩:=sPip_out l (by omega)
 rw[hb,obs]
 cases b with
 |false=>exact .inr ⟨by simpa using hv,by simp⟩
 |true =>
  have h:=hv.1 rfl
  refine .inl ⟨h,?_⟩
  rw[if_neg (not_not_intro rfl)]
  by_cases h0:(l.length:Int)=0
  ·rw[if_pos h0,if_pos (List.eq_nil_of_length_eq_zero (by omega))];rfl
  rw[if_neg h0,if_neg (fun e=>h0 (by rw[e];rfl))]
  unfold spec_PipelineText_l1
  rw[loop_text l l tF [43] 31 (fun p hp=>(tF_le (h.2 p hp)).1) (fun s=>spec_PipelineText_l1_b s.1 s.2.1 s.2.2) (fun i x a hi hx ha=>?_) (fun a=>?_),obs]
  ·rfl
  ·have hf:=h.2 x (List.mem_of_getElem? hx)
   obtain⟨k1,k2,k3,k4⟩:=hf.k
   have hw:=wd_at k1
   have hl1:=itoa_le x.2.1 (by omega) (by omega)
   have hll:=h.1
   simp only[List.length_cons,List.length_nil] at ha
   have hp3:∀ b:Str,b.length≤1000000000→spec_PipelineText_p3 l b (i:Int) x=some (l,b++(if x.2.2 then [63] else []),(i:Int)):=fun b hb=>by
    unfold spec_PipelineText_p3
    cases x.2.2 with
    |true=>simp;omega
    |false=>simp
   have hp2:∀ b:Str,b.length≤100000000→spec_PipelineText_p2 l b (i:Int) x=some (l,b++tF x,(i:Int)):=fun b hb=>by
    unfold spec_PipelineText_p2 spec_l19Words
    have hx1:x.1<6∧0≤x.1:=by omega
    have hat:=hw.1
    unfold wdL at hat
    unfold lit
    rw[obs,if_pos ⟨by omega,by simp only[List.length_cons,List.length_nil];omega⟩,hat,obs,if_pos (by omega)]
    by_cases hp:x.2.1>0
    ·rw[if_pos hp,l05Digits_out _ (by omega) (by omega),obs,if_pos (by simp only[List.length_cons,List.length_nil];omega),if_pos (by simp only[List.length_append,List.length_cons,List.length_nil];omega),if_pos (by simp only[List.length_append,List.length_cons,List.length_nil];omega),hp3 _ (by simp only[List.length_append,List.length_cons,List.length_nil];omega),obs]
     unfold tF;rw[if_pos hp];simp
    ·rw[if_neg hp,hp3 _ (by simp only[List.length_append];omega),obs]
     unfold tF;rw[if_neg hp];simp
   have hwi:=w1 (i:=i) (by omega)
   unfold spec_PipelineText_l1_b
   rw[if_pos (by simp only;omega),if_pos (by simp only;omega)]
   simp only[Int.toNat_natCast,hx,obs]
   by_cases hi0:i=0
   ·subst hi0
    have:a=[]:=List.eq_nil_of_length_eq_zero (by omega)
    subst this
    rw[if_neg (by simp),hp2 _ (by simp),obs,if_pos rfl]
    rfl
   ·rw[if_pos (by omega),if_neg hi0,if_pos (by simp only[List.length_cons,List.length_nil];omega),hp2 _ (by simp only[List.length_append,List.length_cons,List.length_nil];omega),obs]
    simp only[hwi]
  ·unfold spec_PipelineText_l1_b
   rw[if_neg (by simp only;omega)]
theorem iFText_out (f:DFil) (h:okF f):impl_Filter_text f=some (tF f):=by
 obtain⟨k1,k2,k3,k4⟩:=h.k
 have hw:=wd_at k1
 have hl1:=itoa_le f.2.1 (by omega) (by omega)
 have hat:=hw.1
 unfold wdL at hat
 have hp2:∀ b:Str,b.length≤1000000000→impl_Filter_text_p2 f b=some (b++(if f.2.2 then [63] else [])):=fun b hb=>by
  unfold impl_Filter_text_p2
  cases f.2.2 with
  |true=>simp;omega
  |false=>simp
 have hp1:∀ b:Str,b.length≤1000000000→impl_Filter_text_p1 f b=some (f,b++40::(Lib.itoa f.2.1++[41])):=fun b hb=>by
  unfold impl_Filter_text_p1 impl_decimal
  have e:strconv_FormatInt f.2.1=some (Lib.itoa f.2.1):=by
   show fmtS _=_
   unfold fmtS;rw[if_pos (by omega)]
  rw[e,obs,obs,if_pos (by simp only[List.length_cons,List.length_nil];omega),if_pos (by simp only[List.length_append,List.length_cons,List.length_nil];omega),if_pos (by simp only[List.length_append,List.length_cons,List.length_nil];omega)]
  simp
 unfold impl_Filter_text
 rw[if_pos (by omega),hat,obs]
 unfold tF
 by_cases h1:f.1=1
 ·rw[if_pos h1,hp1 _ (by omega),obs,if_pos (k4.2 (.inl h1))]
  simp only
  rw[hp2 _ (by simp only[List.length_append,List.length_cons,List.length_nil];omega),obs]
 rw[if_neg h1]
 by_cases h2:f.1=2
 ·rw[if_pos h2,hp1 _ (by omega),obs,if_pos (k4.2 (.inr h2))]
  simp only
  rw[hp2 _ (by simp only[List.length_append,List.length_cons,List.length_nil];omega),obs]
 rw[if_neg h2,if_neg (fun hh=>by rcases k4.1 hh with hh |hh;exact h1 hh;exact h2 hh),hp2 _ (by omega),obs,List.append_nil]
theorem iPText_out (l:List DFil) (h:VP l) (hne:l≠[]):impl_pipelineText l=some (tP l):=by
 have hl:=h.1
 have hl0:l.length≠0:=fun e=>hne (List.eq_nil_of_length_eq_zero e)
 unfold impl_pipelineText impl_pipelineText_l1
 rw[if_neg (by omega),loop_map l tF (fun s=>impl_pipelineText_l1_b l (l.length:Int) s.1 s.2) (fun i x m hi hx hm=>?_) (fun m=>by simp[impl_pipelineText_l1_b]),obs]
 ·have h1:=tP_le h
  show (joinS (l.map tF) [43]).bind _=_
  unfold joinS
  unfold tP at h1 ⊢
  rw[if_pos (by rw[List.length_map];exact⟨by omega,by omega⟩)]
  rfl
 ·unfold impl_pipelineText_l1_b
  rw[if_pos (by simp only;omega),if_pos (by simp only;omega)]
  simp only[Int.toNat_natCast,hx,obs]
  rw[iFText_out x (h.2 x (List.mem_of_getElem? hx)),obs,appL_one 16 _ _ (by unfold maxRow;omega),obs,w1 (by omega)]
end Go.Proofs.TM
