import Derived.Test.YtlajjnljeebkkaaDoorLPip
namespace Go.Proofs.TM
open Go Go.Proofs
set_option maxHeartbeats 1000000
def kd (n:Nat) (w:Str) (d:Int):Int:=match n with
 |0=>d
 |n+1=>if wd (n+1:Int)=w then (n+1:Int) else kd n w d
theorem p2S_out (v4 v5:DFil) (w:Str) (t:List Str):spec_l19Read_p2 v4 v5 (w::t)=some (kd 5 w v5.1,v5.2.1,v5.2.2):=by
 unfold spec_l19Read_p2 spec_l19Read_l3
 rw[loop_some (r:=(v4,(kd 5 w v5.1,v5.2.1,v5.2.2))) 5 (fun i s=>s=((kd i w v5.1,v5.2.1,v5.2.2),(i:Int)+1)) (fun i s hi hs=>?_) 5 0 (v5,1) (by omega) (by obtain⟨a,b,c⟩:=v5;rfl),obs]
 subst hs
 unfold spec_l19Read_l3_b spec_l19Words
 simp only
 by_cases hn:i<5
 ·rw[if_pos (by omega),obs]
  have hat:(lit [([]:Str),[115,104,117,102,102,108,101],[100,101,108,116,97],[114,117,110],[108,122],[115,117,109]]:List Str)[((i:Int)+1).toNat]?=some (wd ((i:Int)+1)):=(wd_at (by omega)).1
  rw[if_pos ⟨by omega,by unfold lit;simp only[List.length_cons,List.length_nil];omega⟩,hat,obs,if_pos ⟨by omega,by simp only[List.length_cons];omega⟩]
  simp only[Int.toNat_zero,List.getElem?_cons_zero,obs]
  have hw:=w1 (show i+1<9223372036854775807 by omega)
  push_cast at hw
  rw[hw]
  by_cases he:wd ((i:Int)+1)=w
  ·rw[if_pos he]
   refine .inr ⟨hn,_,rfl,?_⟩
   rw[kd,if_pos he];push_cast;rfl
  ·rw[if_neg he]
   refine .inr ⟨hn,_,rfl,?_⟩
   rw[kd,if_neg he];push_cast;rfl
 ·have:i=5:=by omega
  subst this
  exact .inl (by rw[if_neg (by omega)])
theorem kd_wd {k:Int} (h:k=1∨k=2∨k=3∨k=4∨k=5) (d:Int):kd 5 (wd k) d=k:=by
 rcases h with rfl |rfl |rfl |rfl |rfl <;> simp[kd,wd,wdL]
theorem p1S_any (s:Str) (v4 v5:DFil) (hs:s.length≤1048576):∃ f,spec_l19Read_p1 s v4 v5=some f:=by
 have e40:=l05Split_out s 40 hs
 rw[show (((40:UInt8).toNat:Nat):Int)=40 from rfl] at e40
 unfold spec_l19Read_p1
 obtain⟨w,t,e⟩:=spl_ne 40 s
 rw[e40,obs,e]
 cases t with
 |nil=>rw[if_neg (by simp),p2S_out,obs];exact⟨_,rfl⟩
 |cons u t =>
  rw[if_pos (by simp only[List.length_cons];omega),if_pos ⟨by omega,by simp only[List.length_cons];omega⟩]
  simp only[Int.toNat_one,List.getElem?_cons_succ,List.getElem?_cons_zero,obs]
  by_cases hu:u=[]
  ·rw[if_neg (by simp[hu]),p2S_out,obs];exact⟨_,rfl⟩
  ·have hul:u.length≠0:=fun h=>hu (List.eq_nil_of_length_eq_zero h)
   have hu2:u.length≤s.length:=(spl_len 40 s).2 u (by rw[e];simp)
   have e1:IntKind.i64.wrap ((u.length:Int)-1)=((u.length-1:Nat):Int):=by rw[wrap_in (by omega) (by omega)];omega
   rw[if_pos (by simpa using hu),if_pos ⟨by omega,by simp only[List.length_cons];omega⟩,if_pos ⟨by omega,by simp only[List.length_cons];omega⟩,e1,subL_to u _ (by omega),obs,l05Number_out,obs,p2S_out,obs]
   exact⟨_,rfl⟩
theorem p1S_text {k p:Int} (hk:k=1∨k=2∨k=3∨k=4∨k=5) (hp:0≤p) (hp2:p≤24) (o:Bool):spec_l19Read_p1 (wd k++(if p>0 then 40::(Lib.itoa p++[41]) else [])) (0,0,false) (0,0,o)=some (k,p,o):=by
 have hw:=wd_at hk
 have hl:=itoa_le p (by omega) (by omega)
 have hlen:(wd k++(if p>0 then 40::(Lib.itoa p++[41]) else ([]:Str))).length≤1048576:=by
  have e1:(if p>0 then 40::(Lib.itoa p++[41]) else ([]:Str)).length≤23:=by split <;> simp;omega
  rw[List.length_append];omega
 have e40:=l05Split_out _ 40 hlen
 rw[show (((40:UInt8).toNat:Nat):Int)=40 from rfl] at e40
 have hn40:∀ b∈wd k,b≠40:=fun b hb e=>by have:=hw.2.2.2 b hb;subst e;exact absurd this (by decide)
 unfold spec_l19Read_p1
 rw[e40,obs]
 by_cases h0:p>0
 ·have hi:∀ b∈Lib.itoa p++[41],b≠40:=fun b hb=>by
   rcases List.mem_append.1 hb with hb |hb
   ·intro e;subst e;exact absurd (itoa_dig hp 40 hb) (by decide)
   ·simp at hb;subst hb;decide
  rw[if_pos h0,spl_hit 40 _ _ hn40,spl_miss 40 _ hi]
  rw[if_pos (by simp),if_pos ⟨by omega,by simp⟩]
  simp only[Int.toNat_one,List.getElem?_cons_succ,List.getElem?_cons_zero,obs]
  have e1:IntKind.i64.wrap (((Lib.itoa p++[41]).length:Int)-1)=(((Lib.itoa p).length:Nat):Int):=by rw[List.length_append,List.length_singleton,wrap_in (by omega) (by omega)];omega
  rw[if_pos (by simp),if_pos ⟨by omega,by simp⟩,if_pos ⟨by omega,by simp⟩,e1,subL_to _ _ (by simp),obs,List.take_left,l05Number_out,obs,num6_itoa p hp (by omega),p2S_out,obs]
  rw[kd_wd hk]
 ·rw[if_neg h0,List.append_nil,spl_miss 40 _ hn40,if_neg (by simp),p2S_out,obs,kd_wd hk]
  simp only[Option.some.injEq,Prod.mk.injEq,true_and]
  exact⟨by omega,trivial⟩
theorem last_at {s:Str} (h:s≠[]):∃ a b,s=a++[b]:=⟨s.dropLast,s.getLast h,(List.dropLast_concat_getLast h).symm⟩
theorem rdS_any (s:Str) (hs:s.length≤1048576):∃ f,spec_l19Read s=some f:=by
 unfold spec_l19Read
 by_cases h:s=[]
 ·rw[if_neg (by simpa using h)]
  obtain⟨f,hf⟩:=p1S_any s (0,0,false) (0,0,false) hs
  rw[hf];exact⟨_,rfl⟩
 ·obtain⟨a,b,rfl⟩:=last_at h
  rw[List.length_append,List.length_singleton] at hs
  have e1:IntKind.i64.wrap (((a++[b]).length:Int)-1)=(a.length:Int):=by rw[List.length_append,List.length_singleton,wrap_in (by omega) (by omega)];omega
  rw[if_pos (by simp),e1,if_pos (by omega),Int.toNat_natCast,List.getElem?_append_right (Nat.le_refl _),Nat.sub_self,List.getElem?_cons_zero,obs,subL_to _ _ (by simp),obs,List.take_left]
  by_cases hb:(b.toNat:Int)=63
  ·rw[if_pos hb]
   obtain⟨f,hf⟩:=p1S_any a (0,0,false) (0,0,true) (by omega)
   rw[hf];exact⟨_,rfl⟩
  ·rw[if_neg hb]
   obtain⟨f,hf⟩:=p1S_any (a++[b]) (0,0,false) (0,0,false) (by rw[List.length_append,List.length_singleton];omega)
   rw[hf];exact⟨_,rfl⟩
theorem rdS_text {f:DFil} (h:okF f):spec_l19Read (tF f)=some f:=by
 obtain⟨k,p,o⟩:=f
 obtain⟨h1,h2,h3,h4⟩:=h.k
 simp only at h1 h2 h3 h4
 have hw:=wd_at h1
 have hle:=(tF_le h).1
 unfold tF at hle ⊢
 simp only at hle ⊢
 generalize hm:wd k++(if p>0 then 40::(Lib.itoa p++[41]) else [])=m at hle ⊢
 have hp1:=p1S_text h1 h2 h3 o
 rw[hm] at hp1
 have hmne:m≠[]:=by
  intro e
  rw[e] at hm
  have:=congrArg List.length hm
  rw[List.length_append,List.length_nil] at this
  omega
 unfold spec_l19Read
 cases o with
 |true =>
  rw[if_pos rfl] at hle ⊢
  rw[List.length_append,List.length_singleton] at hle
  have e1:IntKind.i64.wrap (((m++[63]).length:Int)-1)=(m.length:Int):=by rw[List.length_append,List.length_singleton,wrap_in (by omega) (by omega)];omega
  rw[if_pos (by simp),e1,if_pos (by omega),Int.toNat_natCast,List.getElem?_append_right (Nat.le_refl _),Nat.sub_self,List.getElem?_cons_zero,obs,subL_to _ _ (by simp),obs,List.take_left,if_pos (show ((63:UInt8).toNat:Int)=63 from rfl),hp1,obs]
 |false =>
  simp only[Bool.false_eq_true,if_false,List.append_nil] at hle ⊢
  rw[if_pos hmne]
  obtain⟨a,b,rfl⟩:=last_at hmne
  rw[List.length_append,List.length_singleton] at hle
  have hb:(b.toNat:Int)≠63:=by
   by_cases h0:p>0
   ·rw[if_pos h0] at hm
    have:b=41:=by
     have e:(wd k++40::(Lib.itoa p++[41]))=(wd k++40::Lib.itoa p)++[41]:=by simp
     rw[e] at hm
     have:=(List.append_inj' hm rfl).2
     simpa using this.symm
    subst this;decide
   ·rw[if_neg h0,List.append_nil] at hm
    have:=hw.2.2.2 b (by rw[hm];simp)
    omega
  have e1:IntKind.i64.wrap (((a++[b]).length:Int)-1)=(a.length:Int):=by rw[List.length_append,List.length_singleton,wrap_in (by omega) (by omega)];omega
  rw[e1,if_pos (by omega),Int.toNat_natCast,List.getElem?_append_right (Nat.le_refl _),Nat.sub_self,List.getElem?_cons_zero,obs,if_neg hb,hp1,obs]
noncomputable def rF (s:Str):DFil:=(spec_l19Read s).getD (0,0,false)
theorem rF_out (s:Str) (hs:s.length≤1048576):spec_l19Read s=some (rF s):=by
 obtain⟨f,hf⟩:=rdS_any s hs;rw[rF,hf];rfl
theorem rF_tF {f:DFil} (h:okF f):rF (tF f)=f:=by rw[rF,rdS_text h];rfl
theorem rdPL_out (s:Str) (P:List Str) (h:P.length≤1048577) (hP:∀ x∈P,x.length≤1048576):spec_ReadPipeline_l1 s P ([],0)=some (s,(P.take 5).map rF):=by
 unfold spec_ReadPipeline_l1
 have hm:min 5 P.length≤5∧min 5 P.length≤P.length∧(min 5 P.length=5∨min 5 P.length=P.length):=by omega
 refine loop_some (min 5 P.length) (fun i t=>t=((P.take i).map rF,(i:Int))) (fun i t hi ht=>?_) (min 5 P.length) 0 _ (by omega) (by simp)
 subst ht
 unfold spec_ReadPipeline_l1_b
 simp only
 by_cases hn:i<min 5 P.length
 ·obtain⟨x,hx⟩:=get_at (show i<P.length by omega)
  have hxl:=hP x (List.mem_of_getElem? hx)
  rw[if_pos (by omega),if_pos (by omega),if_pos ⟨by omega,by omega⟩,Int.toNat_natCast,hx,obs,rF_out x hxl,obs,appL_one 24 _ _ (by rw[List.length_map,List.length_take];unfold maxRow;omega),obs,w1 (by omega)]
  refine .inr ⟨hn,_,rfl,?_⟩
  rw[List.take_add_one,hx];simp
 ·have hi':i=min 5 P.length:=by omega
  refine .inl ?_
  have ht:(P.take i).map rF=(P.take 5).map rF:=by
   rcases hm.2.2 with e |e
   ·rw[hi',e]
   ·rw[hi',e,List.take_of_length_le (Nat.le_refl _),List.take_of_length_le (by omega)]
  by_cases h1:(i:Int)<((P.length:Nat):Int)
  ·rw[if_pos h1,if_neg (by omega),ht]
  ·rw[if_neg h1,ht]
theorem splP0 {l:List DFil} (hl:VP l) (hne:l≠[]):spl 43 (tP l)=l.map tF:=by
 refine spl_join 43 _ (by simpa using hne) (fun y hy=>?_)
 obtain⟨f,hf,rfl⟩:=List.mem_map.1 hy
 have hof:=hl.2 f hf
 obtain⟨h1,h2,h3,h4⟩:=hof.k
 have hw:=wd_at h1
 intro b hb
 unfold tF at hb
 rcases List.mem_append.1 hb with hb |hb
 ·rcases List.mem_append.1 hb with hb |hb
  ·have:=hw.2.2.2 b hb;intro e;subst e;exact absurd this (by decide)
  ·split at hb
   ·rcases List.mem_cons.1 hb with rfl |hb
    ·decide
    ·rcases List.mem_append.1 hb with hb |hb
     ·intro e;subst e;exact absurd (itoa_dig h2 43 hb) (by decide)
     ·simp at hb;subst hb;decide
   ·cases hb
 ·split at hb
  ·simp at hb;subst hb;decide
  ·cases hb
theorem splP {l:List DFil} (hl:VP l) (hne:l≠[]):(spl 43 (tP l)).map rF=l:=by
 rw[splP0 hl hne,List.map_map]
 conv=>rhs;rw[← List.map_id l]
 exact List.map_congr_left fun f hf=>rF_tF (hl.2 f hf)
theorem rdPS_out (s:Str) (hs:s.length≤1048576) (hn:s≠noneT):(∃ l,VP l∧l≠[]∧tP l=s∧spec_ReadPipeline s=some (l,true))∨((¬∃ l,VP l∧l≠[]∧tP l=s)∧spec_ReadPipeline s=some ([],false)):=by
 unfold spec_ReadPipeline
 rw[if_neg (show ¬s=[110,111,110,101] from hn)]
 have e43:=l05Split_out s 43 hs
 rw[show (((43:UInt8).toNat:Nat):Int)=43 from rfl] at e43
 have hsl:=spl_len 43 s
 rw[e43,obs,rdPL_out s _ (by omega) (fun x hx=>by have:=hsl.2 x hx;omega),obs]
 generalize ho:(List.take 5 (spl 43 s)).map rF=o
 have hol:o.length≤5:=by rw[← ho,List.length_map,List.length_take];omega
 have hone:o≠[]:=by
  obtain⟨a,t,e⟩:=spl_ne 43 s
  rw[← ho,e];simp
 have back:(∃ l,VP l∧l≠[]∧tP l=s)→VP o∧tP o=s:=by
  rintro⟨l,hl,hne,rfl⟩
  have hsp:=splP0 hl hne
  have:o=l:=by
   rw[← ho,hsp,List.take_of_length_le (by rw[List.length_map];have:=hl.1;omega),List.map_map]
   conv=>rhs;rw[← List.map_id l]
   exact List.map_congr_left fun f hf=>rF_tF (hl.2 f hf)
  rw[this];exact⟨hl,rfl⟩
 rcases sPText_out o (by omega) with ⟨hv,ht⟩ |⟨hv,ht⟩
 ·rw[ht,obs,if_neg hone]
  by_cases he:tP o=s
  ·rw[if_neg (not_not_intro he),if_neg (fun e=>tP_ne hv hone (he.trans e))];exact .inl ⟨o,hv,hone,he,rfl⟩
  ·rw[if_pos he];exact .inr ⟨fun h=>he (back h).2,rfl⟩
 ·rw[ht,obs]
  refine .inr ⟨fun h=>hv (back h).1,?_⟩
  by_cases he:([]:Str)=s
  ·rw[if_neg (not_not_intro he),if_pos he.symm]
  ·rw[if_pos he]
end Go.Proofs.TM
