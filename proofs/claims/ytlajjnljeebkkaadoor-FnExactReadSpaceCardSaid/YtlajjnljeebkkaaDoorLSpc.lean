import Derived.Test.YtlajjnljeebkkaaDoorLDig
namespace Go.Proofs.TM
open Go Go.Proofs
set_option maxHeartbeats 1000000
abbrev DSpc:=List Int×List Int
theorem l00In_out (n a b:Int):spec_l00In n a b=some (decide (a≤n∧n≤b)):=by
 unfold spec_l00In
 by_cases h:n≥a
 ·rw[if_pos h];exact dI ⟨fun k=>⟨h,k⟩,fun k=>k.2⟩
 ·rw[if_neg h];exact dF fun k=>h k.1
theorem within_out (n a b:Int):impl_within n a b=some (decide (a≤n∧n≤b)):=by
 unfold impl_within
 by_cases h:n≥a
 ·rw[if_pos h];exact dI ⟨fun k=>⟨h,k⟩,fun k=>k.2⟩
 ·rw[if_neg h];exact dF fun k=>h k.1
theorem allWithin_out (x:List Int) (a b:Int) (h:x.length≤140737488355328):∃ c,impl_allWithin x a b=some c∧(c=true↔∀ y∈x,a≤y∧y≤b):=by
 unfold impl_allWithin slices_ContainsFunc_int64_int64__allWithin_c1 slices_IndexFunc_int64_int64__allWithin_c1 slices_IndexFunc_int64_int64__allWithin_c1_l1
 obtain⟨r,hr,hx⟩:=loop_find x (fun y=>a≤y∧y≤b) (fun s=>slices_IndexFunc_int64_int64__allWithin_c1_l1_b x a b (x.length:Int) s) () (fun k y hk hy hp=>by
  unfold slices_IndexFunc_int64_int64__allWithin_c1_l1_b impl_allWithin_c1
  rw[if_pos (by omega),if_pos (by omega),Int.toNat_natCast,hy,obs,within_out,obs,obs,if_neg (by simpa using hp),w1 (by omega)]) (fun k y hk hy hp=>by
  unfold slices_IndexFunc_int64_int64__allWithin_c1_l1_b impl_allWithin_c1
  rw[if_pos (by omega),if_pos (by omega),Int.toNat_natCast,hy,obs,within_out,obs,obs,if_pos (by rw[decide_eq_false hp];simp)]) (by simp[slices_IndexFunc_int64_int64__allWithin_c1_l1_b])
 rw[hr]
 rcases hx with ⟨rfl,hall⟩ |⟨k,rfl,hk,hn⟩
 ·exact⟨true,rfl,by simpa using hall⟩
 ·exact⟨false,by simp[hk],by simpa using hn⟩
def prodW (l:List Int):Int:=l.foldl (fun a x=>IntKind.i64.wrap (a*x)) 1
theorem prodW_snoc (l:List Int) (x:Int):prodW (l++[x])=IntKind.i64.wrap (prodW l*x):=by unfold prodW;rw[List.foldl_append];rfl
def VD (l:List Int):Prop:=l.length≤3∧(∀ x∈l,0≤x∧x≤40)∧prodW l≤600
def VS (s:DSpc):Prop:=VD s.1∧s.2.length=s.1.length∧∀ (i:Nat) m d,s.2[i]?=some m→s.1[i]?=some d→m=-1∨(d≤m∧m≤40)
theorem sDims_out (l:List Int):∃ b,spec_l05Dims l=some b∧(b=true↔VD l):=by
 unfold spec_l05Dims spec_l05Dims_l1 VD
 by_cases h3:(l.length:Int)>3
 ·rw[if_pos h3];exact⟨false,rfl,by simp;omega⟩
 rw[if_neg h3]
 have key:=loop_ex (f:=fun s:Int×Int=>spec_l05Dims_l1_b l s.1 s.2) (fun r=>(r=.inl (prodW l)∧∀ x∈l,0≤x∧x≤40)∨(r=.inr false∧¬∀ x∈l,0≤x∧x≤40)) l.length (fun i s=>s.2=(i:Int)∧s.1=prodW (l.take i)∧∀ j,j<i→∀ x,l[j]?=some x→0≤x∧x≤40) (fun i s hi hs=>?_) l.length 0 (1,0) (by omega) ⟨rfl,by simp[prodW],fun j hj=>by omega⟩
 ·obtain⟨r,hr,hP⟩:=key
  rw[hr,obs]
  rcases hP with ⟨rfl,ha⟩ |⟨rfl,ha⟩
  ·exact⟨_,rfl,by rw[decide_eq_true_eq];exact⟨fun h=>⟨by omega,ha,h⟩,fun h=>h.2.2⟩⟩
  ·exact⟨false,rfl,by simp only[Bool.false_eq_true,false_iff];exact fun h=>ha h.2.1⟩
 ·obtain⟨p,k⟩:=s
  obtain⟨rfl,rfl,hall⟩:=hs
  unfold spec_l05Dims_l1_b
  by_cases hn:i<l.length
  ·obtain⟨x,hx⟩:=get_at hn
   simp only
   rw[if_pos (by omega),if_pos (by omega),Int.toNat_natCast,hx,obs,l00In_out,obs]
   by_cases hp:0≤x∧x≤40
   ·rw[if_neg (by simpa using hp),if_pos (by omega),obs,w1 (by omega)]
    refine .inr ⟨hn,_,rfl,rfl,?_,fun j hj y hy=>?_⟩
    ·rw[List.take_add_one,hx];simp only[Option.toList_some];rw[prodW_snoc]
    ·by_cases hji:j=i
     ·subst hji;rw[hx] at hy;cases hy;exact hp
     ·exact hall j (by omega) y hy
   ·rw[if_pos (by rw[decide_eq_false hp];simp)]
    exact .inl ⟨_,rfl,.inr ⟨rfl,fun h=>hp (h x (List.mem_of_getElem? hx))⟩⟩
  ·have:i=l.length:=by omega
   subst this
   simp only
   rw[if_neg (by omega),List.take_length]
   exact .inl ⟨_,rfl,.inl ⟨rfl,all_get.1 hall⟩⟩
theorem sSpace_out (s:DSpc):∃ b,spec_l05Space s=some b∧(b=true↔VS s):=by
 unfold spec_l05Space
 obtain⟨b,hb,hv⟩:=sDims_out s.1
 rw[hb,obs]
 cases b with
 |false=>exact⟨false,by simp,by simp only[Bool.false_eq_true,false_iff] at hv ⊢;exact fun h=>hv h.1⟩
 |true =>
  have hd:=hv.1 rfl
  have hd3:=hd.1
  rw[if_neg (not_not_intro rfl)]
  by_cases hl:¬((s.2.length:Int)=(s.1.length:Int))
  ·rw[if_pos hl];exact⟨false,rfl,by simp only[Bool.false_eq_true,false_iff];exact fun h=>hl (by rw[h.2.1])⟩
  rw[if_neg hl]
  have hl:s.2.length=s.1.length:=by omega
  unfold spec_l05Space_l1
  have key:=loop_ex (f:=fun k:Int=>spec_l05Space_l1_b s k) (fun r=>(r=.inl ()∧VS s)∨(r=.inr false∧¬VS s)) s.2.length (fun i k=>k=(i:Int)∧∀ j,j<i→∀ m d,s.2[j]?=some m→s.1[j]?=some d→m=-1∨(d≤m∧m≤40)) (fun i k hi hk=>?_) s.2.length 0 0 (by omega) ⟨rfl,fun j hj=>by omega⟩
  ·obtain⟨r,hr,hP⟩:=key
   rw[hr,obs]
   rcases hP with ⟨rfl,ha⟩ |⟨rfl,ha⟩
   ·exact⟨true,rfl,by simpa using ha⟩
   ·exact⟨false,rfl,by simpa using ha⟩
  ·obtain⟨rfl,hall⟩:=hk
   unfold spec_l05Space_l1_b
   by_cases hn:i<s.2.length
   ·obtain⟨m,hm⟩:=get_at hn
    obtain⟨d,hd'⟩:=get_at (l:=s.1) (i:=i) (by omega)
    have ext:(m=-1∨(d≤m∧m≤40))→∀ j,j<i+1→∀ m d,s.2[j]?=some m→s.1[j]?=some d→m=-1∨(d≤m∧m≤40):=fun h j hj m' d' h1 h2=>by
     by_cases hji:j=i
     ·subst hji;rw[hm] at h1;rw[hd'] at h2;cases h1;cases h2;exact h
     ·exact hall j (by omega) m' d' h1 h2
    rw[if_pos (by omega),if_pos (by omega),Int.toNat_natCast,hm,obs,w1 (by omega)]
    by_cases hm1:¬m=-1
    ·rw[if_pos hm1,if_pos (by omega),obs,if_pos (by omega),hd',obs,l00In_out,obs]
     by_cases hp:d≤m∧m≤40
     ·rw[if_neg (by simpa using hp)];exact .inr ⟨hn,_,rfl,by omega,ext (.inr hp)⟩
     ·rw[if_pos (by rw[decide_eq_false hp];simp)]
      exact .inl ⟨_,rfl,.inr ⟨rfl,fun h=>by rcases h.2.2 i m d hm hd' with h |h;exact hm1 h;exact hp h⟩⟩
    ·rw[if_neg hm1];exact .inr ⟨hn,_,rfl,by omega,ext (.inl (Decidable.not_not.1 hm1))⟩
   ·have:i=s.2.length:=by omega
    rw[if_neg (by omega)]
    exact .inl ⟨_,rfl,.inl ⟨rfl,hd,hl,fun j m d h1 h2=>hall j (by rw[this];exact (List.getElem?_eq_some_iff.1 h1).1) m d h1 h2⟩⟩
theorem iProd_out (l:List Int) (h:l.length≤1048576):impl_product l=some (prodW l):=by
 unfold impl_product impl_product_l1
 rw[loop_some (r:=prodW l) l.length (fun i s=>s.2=(i:Int)∧s.1=prodW (l.take i)) (fun i s hi hs=>?_) l.length 0 (1,0) (by omega) ⟨rfl,by simp[prodW]⟩]
 ·rfl
 ·obtain⟨p,k⟩:=s
  obtain⟨rfl,rfl⟩:=hs
  unfold impl_product_l1_b
  by_cases hn:i<l.length
  ·obtain⟨x,hx⟩:=get_at hn
   simp only
   rw[if_pos (by omega),if_pos (by omega),Int.toNat_natCast,hx,obs,w1 (by omega)]
   refine .inr ⟨hn,_,rfl,rfl,?_⟩
   rw[List.take_add_one,hx];simp only[Option.toList_some];rw[prodW_snoc]
  ·have:i=l.length:=by omega
   subst this
   simp only
   rw[if_neg (by omega),List.take_length]
   exact .inl rfl
theorem iDims_out (l:List Int):∃ b,impl_ValidDims l=some b∧(b=true↔VD l):=by
 unfold impl_ValidDims VD
 by_cases h3:(l.length:Int)≤3
 ·rw[if_pos h3]
  obtain⟨c,hc,hx⟩:=allWithin_out l 0 40 (by omega)
  rw[hc,obs]
  cases c with
  |false=>exact⟨false,by simp,by simp only[Bool.false_eq_true,false_iff] at hx ⊢;exact fun h=>hx h.2.1⟩
  |true =>
   rw[if_pos rfl,iProd_out l (by omega),obs]
   exact⟨_,rfl,by rw[decide_eq_true_eq];exact⟨fun h=>⟨by omega,hx.1 rfl,h⟩,fun h=>h.2.2⟩⟩
 ·rw[if_neg h3];exact⟨false,rfl,by simp only[Bool.false_eq_true,false_iff];exact fun h=>h3 (by omega)⟩
theorem iSpace_out (s:DSpc):∃ b,impl_ValidSpace s=some b∧(b=true↔VS s):=by
 unfold impl_ValidSpace
 obtain⟨b,hb,hv⟩:=iDims_out s.1
 rw[hb,obs]
 cases b with
 |false=>exact⟨false,by simp,by simp only[Bool.false_eq_true,false_iff] at hv ⊢;exact fun h=>hv h.1⟩
 |true =>
  have hd:=hv.1 rfl
  have hd3:=hd.1
  rw[if_neg (not_not_intro rfl)]
  by_cases hl:¬((s.2.length:Int)=(s.1.length:Int))
  ·rw[if_pos hl];exact⟨false,rfl,by simp only[Bool.false_eq_true,false_iff];exact fun h=>hl (by rw[h.2.1])⟩
  rw[if_neg hl]
  have hl:s.2.length=s.1.length:=by omega
  unfold impl_ValidSpace_l1
  have key:=loop_ex (f:=fun k:Int=>impl_ValidSpace_l1_b s s.2 (s.2.length:Int) k) (fun r=>(r=.inl ()∧VS s)∨(r=.inr false∧¬VS s)) s.2.length (fun i k=>k=(i:Int)∧∀ j,j<i→∀ m d,s.2[j]?=some m→s.1[j]?=some d→m=-1∨(d≤m∧m≤40)) (fun i k hi hk=>?_) s.2.length 0 0 (by omega) ⟨rfl,fun j hj=>by omega⟩
  ·obtain⟨r,hr,hP⟩:=key
   rw[hr,obs]
   rcases hP with ⟨rfl,ha⟩ |⟨rfl,ha⟩
   ·exact⟨true,rfl,by simpa using ha⟩
   ·exact⟨false,rfl,by simpa using ha⟩
  ·obtain⟨rfl,hall⟩:=hk
   unfold impl_ValidSpace_l1_b
   by_cases hn:i<s.2.length
   ·obtain⟨m,hm⟩:=get_at hn
    obtain⟨d,hd'⟩:=get_at (l:=s.1) (i:=i) (by omega)
    have ext:(m=-1∨(d≤m∧m≤40))→∀ j,j<i+1→∀ m d,s.2[j]?=some m→s.1[j]?=some d→m=-1∨(d≤m∧m≤40):=fun h j hj m' d' h1 h2=>by
     by_cases hji:j=i
     ·subst hji;rw[hm] at h1;rw[hd'] at h2;cases h1;cases h2;exact h
     ·exact hall j (by omega) m' d' h1 h2
    rw[if_pos (by omega),if_pos (by omega),Int.toNat_natCast,hm,obs,w1 (by omega)]
    by_cases hm1:¬m=-1
    ·rw[if_pos hm1,if_pos (by omega),hd',obs,within_out,obs]
     by_cases hp:d≤m∧m≤40
     ·rw[if_neg (by simpa using hp)];exact .inr ⟨hn,_,rfl,by omega,ext (.inr hp)⟩
     ·rw[if_pos (by rw[decide_eq_false hp];simp)]
      exact .inl ⟨_,rfl,.inr ⟨rfl,fun h=>by rcases h.2.2 i m d hm hd' with h |h;exact hm1 h;exact hp h⟩⟩
    ·rw[if_neg hm1];exact .inr ⟨hn,_,rfl,by omega,ext (.inl (Decidable.not_not.1 hm1))⟩
   ·have:i=s.2.length:=by omega
    rw[if_neg (by omega)]
    exact .inl ⟨_,rfl,.inl ⟨rfl,hd,hl,fun j m d h1 h2=>hall j (by rw[this];exact (List.getElem?_eq_some_iff.1 h1).1) m d h1 h2⟩⟩
def tE (p:Int×Int):Str:=Lib.itoa p.1++(if p.2=p.1 then [] else if p.2=-1 then [47,42] else 47::Lib.itoa p.2)
def tS (s:DSpc):Str:=40::Lib.join ((s.1.zip s.2).map tE) [44]++[41]
def OkP (p:Int×Int):Prop:=(0≤p.1∧p.1≤40)∧(p.2=-1∨(p.1≤p.2∧p.2≤40))
theorem OkP.b {p:Int×Int} (h:OkP p):0≤p.1∧p.1≤40∧-1≤p.2∧p.2≤40:=by
 obtain⟨h1,h2⟩:=h;omega
theorem VS.zip {s:DSpc} (h:VS s):(s.1.zip s.2).length=s.1.length∧s.1.length≤3∧∀ p∈s.1.zip s.2,OkP p:=by
 refine⟨by rw[List.length_zip,h.2.1,Nat.min_self],h.1.1,fun p hp=>?_⟩
 obtain⟨i,hi,rfl⟩:=List.mem_iff_getElem.1 hp
 rw[List.length_zip] at hi
 rw[List.getElem_zip]
 exact⟨h.1.2.1 _ (List.getElem_mem (by omega)),h.2.2 i _ _ (List.getElem?_eq_getElem (by omega)) (List.getElem?_eq_getElem (by omega))⟩
theorem tE_le {p:Int×Int} (h:OkP p):(tE p).length≤43:=by
 have h1:=itoa_le p.1 (by have:=h.b;omega) (by have:=h.b;omega)
 have h2:=itoa_le p.2 (by have:=h.b;omega) (by have:=h.b;omega)
 unfold tE
 rw[List.length_append]
 split
 ·simp only[List.length_nil];omega
 ·split
  ·simp only[List.length_cons,List.length_nil];omega
  ·simp only[List.length_cons];omega
theorem tS_le {s:DSpc} (h:VS s):(Lib.join ((s.1.zip s.2).map tE) [44]).length≤132:=by
 have:=join_le 43 [44] ((s.1.zip s.2).map tE) (fun x hx=>by obtain⟨p,hp,rfl⟩:=List.mem_map.1 hx;exact tE_le (h.zip.2.2 p hp))
 rw[List.length_map,h.zip.1] at this
 have h3:=h.zip.2.1
 simp only[List.length_cons,List.length_nil] at this
 omega
theorem zip_get {s:DSpc} {i:Nat} {p:Int×Int} (h:(s.1.zip s.2)[i]?=some p):s.1[i]?=some p.1∧s.2[i]?=some p.2:=by
 rw[List.getElem?_zip_eq_some] at h;exact h
theorem sText_out (s:DSpc):(VS s∧spec_SpaceText s=some (tS s))∨(¬VS s∧spec_SpaceText s=some []):=by
 unfold spec_SpaceText
 obtain⟨b,hb,hv⟩:=sSpace_out s
 rw[hb,obs]
 cases b with
 |false=>exact .inr ⟨by simpa using hv,by simp⟩
 |true =>
  have h:=hv.1 rfl
  refine .inl ⟨h,?_⟩
  obtain⟨z1,z2,z3⟩:=h.zip
  rw[if_neg (not_not_intro rfl)]
  unfold spec_SpaceText_l1
  rw[loop_text s (s.1.zip s.2) tE [44] 43 (fun p hp=>tE_le (z3 p hp)) (fun s=>spec_SpaceText_l1_b s.1 s.2.1 s.2.2) (fun i x a hi hx ha=>?_) (fun a=>?_),obs]
  ·have:=tS_le h
   rw[if_pos (by simp only[List.length_cons,List.length_nil];omega),if_pos (by simp only[List.length_append,List.length_cons,List.length_nil];omega)]
   rfl
  ·obtain⟨x1,x2⟩:=zip_get hx
   have hp:=z3 x (List.mem_of_getElem? hx)
   have hl1:=itoa_le x.1 (by have:=hp.b;omega) (by have:=hp.b;omega)
   have hl2:=itoa_le x.2 (by have:=hp.b;omega) (by have:=hp.b;omega)
   simp only[List.length_cons,List.length_nil] at ha
   have hwi:=w1 (i:=i) (by omega)
   have hp2:∀ b:Str,b.length≤1000000000→spec_SpaceText_p2 s b (i:Int)=some (s,b++tE x,(i:Int)):=fun b hb=>by
    unfold spec_SpaceText_p2 tE
    rw[if_pos (by omega),Int.toNat_natCast,x1,obs,l05Digits_out x.1 (by have:=hp.b;omega) (by have:=hp.b;omega),obs,if_pos (by omega),if_pos (by omega),x2,obs,if_pos (by omega),obs]
    by_cases he:x.2=x.1
    ·rw[if_pos he,if_pos he,List.append_nil]
    ·rw[if_neg he,if_neg he]
     by_cases hm:x.2=-1
     ·rw[if_pos hm,if_pos hm,if_pos (by simp only[List.length_append,List.length_cons,List.length_nil];omega),List.append_assoc]
     ·rw[if_neg hm,if_neg hm,if_pos (by omega),obs,l05Digits_out x.2 (by have:=hp.b;omega) (by have:=hp.b;omega),obs,if_pos (by simp only[List.length_cons,List.length_nil];omega),if_pos (by simp only[List.length_append,List.length_cons,List.length_nil];omega),List.append_assoc]
      rfl
   unfold spec_SpaceText_l1_b
   rw[if_pos (by simp only;omega)]
   by_cases h0:i=0
   ·subst h0
    have:a=[]:=List.eq_nil_of_length_eq_zero (by omega)
    subst this
    rw[if_neg (by simp),hp2 _ (by simp),obs,if_pos rfl]
    rfl
   ·rw[if_pos (by simp only;omega),if_neg h0,if_pos (by simp only[List.length_cons,List.length_nil];omega),hp2 _ (by simp only[List.length_append,List.length_cons,List.length_nil];omega),obs]
    simp only[hwi]
  ·unfold spec_SpaceText_l1_b
   rw[if_neg (by simp only;omega)]
theorem iText_out (s:DSpc) (h:VS s):impl_Space_text s=some (tS s):=by
 obtain⟨z1,z2,z3⟩:=h.zip
 unfold impl_Space_text impl_Space_text_l1
 rw[loop_some (r:=(s.1.zip s.2).map tE) (s.1.zip s.2).length (fun i t=>t=(s,((s.1.zip s.2).take i).map tE,s.1,(s.1.length:Int),(i:Int))) (fun i t hi ht=>?_) (s.1.zip s.2).length 0 _ (by omega) (by simp),obs]
 ·have:=tS_le h
  have hj:strings_Join ((s.1.zip s.2).map tE) [44]=some (Lib.join ((s.1.zip s.2).map tE) [44]):=by
   show joinS _ _=_
   unfold joinS
   rw[if_pos ⟨by rw[List.length_map];omega,by omega⟩]
  rw[hj,obs,if_pos (by simp only[List.length_cons,List.length_nil];omega),if_pos (by simp only[List.length_append,List.length_cons,List.length_nil];omega)]
  rfl
 ·subst ht
  unfold impl_Space_text_l1_b
  by_cases hn:i<(s.1.zip s.2).length
  ·obtain⟨x,hx⟩:=get_at hn
   obtain⟨x1,x2⟩:=zip_get hx
   have hp:=z3 x (List.mem_of_getElem? hx)
   have hl1:=itoa_le x.1 (by have:=hp.b;omega) (by have:=hp.b;omega)
   have hl2:=itoa_le x.2 (by have:=hp.b;omega) (by have:=hp.b;omega)
   have hp2:∀ t:Str,impl_Space_text_p2 s (((s.1.zip s.2).take i).map tE) t s.1 (s.1.length:Int) (i:Int)=some (s,((s.1.zip s.2).take i).map tE++[t],s.1,(s.1.length:Int),(i:Int)):=fun t=>by
    unfold impl_Space_text_p2
    rw[appL_one 16 _ _ (by rw[List.length_map,List.length_take];unfold maxRow;omega),obs]
   have hdec:∀ n:Int,-1≤n∧n≤40→impl_decimal n=some (Lib.itoa n):=fun n hn=>by
    unfold impl_decimal
    show (fmtS n).bind _=_
    unfold fmtS
    rw[if_pos (by omega)];rfl
   have hwi:=w1 (i:=i) (by omega)
   have done:((s.1.zip s.2).take (i+1)).map tE=((s.1.zip s.2).take i).map tE++[tE x]:=by rw[List.take_add_one,hx];simp
   simp only
   rw[if_pos (by omega),if_pos (by omega),Int.toNat_natCast,x1,obs,hdec x.1 (by have:=hp.b;omega),obs,if_pos (by omega),x2,obs]
   refine .inr ⟨hn,(s,((s.1.zip s.2).take (i+1)).map tE,s.1,(s.1.length:Int),(i:Int)+1),?_,by simp⟩
   rw[done,show tE x=Lib.itoa x.1++(if x.2=x.1 then [] else if x.2=-1 then [47,42] else 47::Lib.itoa x.2) from rfl]
   by_cases hm:x.2=-1
   ·rw[if_pos hm,if_pos (by simp only[List.length_cons,List.length_nil];omega),hp2,obs,if_neg (by have:=hp.b;omega),if_pos hm]
    simp only[hwi] <;> rfl
   ·rw[if_neg hm]
    by_cases he:x.2=x.1
    ·rw[if_pos he,hp2,obs,if_pos he,List.append_nil]
     simp only[hwi] <;> rfl
    ·rw[if_neg he,if_pos (by omega),obs,hdec x.2 (by have:=hp.b;omega),obs,if_pos (by simp only[List.length_cons,List.length_nil];omega),if_pos (by simp only[List.length_append,List.length_cons,List.length_nil];omega),hp2,obs,if_neg he,if_neg hm]
     simp only[hwi] <;> rfl
  ·have:i=(s.1.zip s.2).length:=by omega
   subst this
   simp only
   rw[if_neg (by omega),List.take_length]
   exact .inl rfl
end Go.Proofs.TM
