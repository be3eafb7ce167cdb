import Derived.Test.YtakhpblefnpjcaaDoorLDig
namespace Go.Proofs.TM
open Go Go.Proofs
set_option maxHeartbeats 1000000
abbrev DSel:=Int×List Int×List Int×List Int×List Int×List (List Int)
def SmI (l:List Int):Prop:=l.length≤1048576
def SmP (l:List (List Int)):Prop:=l.length≤1048576∧∀ x∈l,SmI x
def SmS (s:DSel):Prop:=SmI s.2.1∧SmI s.2.2.1∧SmI s.2.2.2.1∧SmI s.2.2.2.2.1∧SmP s.2.2.2.2.2
theorem szInt64S_out (l:List Int) (L:Int) (hl:l.length≤maxLen) (h0:0≤L) (hL:L≤1048576):laws_szInt64S l L=some (-1)∨∃ k,laws_szInt64S l L=some k∧0≤k∧k≤L∧SmI l:=by
 have hl':l.length≤9223372036854775807:=Nat.le_trans hl (by decide)
 unfold laws_szInt64S
 rw[wrap_in (by omega) (by omega)]
 by_cases hc:L-(l.length:Int)<0
 ·rw[if_pos hc];exact .inl rfl
 ·rw[if_neg hc];exact .inr ⟨_,rfl,by omega,by omega,by unfold SmI;omega⟩
theorem szPointS_out (l:List (List Int)) (L:Int) (hl:Gd.ok l) (h0:0≤L) (hL:L≤1048576):laws_szPointS l L=some (-1)∨∃ k,laws_szPointS l L=some k∧0≤k∧k≤L∧SmP l:=by
 have hl':l.length≤9223372036854775807:=Nat.le_trans hl.1 (by decide)
 unfold laws_szPointS
 rw[wrap_in (by omega) (by omega)]
 by_cases hc:L-(l.length:Int)<0
 ·rw[if_pos hc];exact .inl rfl
 ·rw[if_neg hc]
  have key:=loop_ex (f:=fun s:Int×Int=>laws_szPointS_l1_b l s.1 s.2) (fun r=>r=.inr (-1)∨∃ k,r=.inl k∧0≤k∧k≤L∧∀ x∈l,SmI x) l.length (fun i s=>s.2=(i:Int)∧0≤s.1∧s.1≤L∧∀ j,j<i→∀ x,l[j]?=some x→SmI x) (fun i s hi hs=>?_) l.length 0 (L-(l.length:Int),0) (by omega) ⟨rfl,by simp only;omega,by simp only;omega,fun j hj=>by omega⟩
  ·obtain⟨r,hr,hP⟩:=key
   unfold laws_szPointS_l1
   rw[hr,obs]
   rcases hP with rfl |⟨k,rfl,ha,hb,hx⟩
   ·exact .inl rfl
   ·exact .inr ⟨k,rfl,ha,hb,by omega,hx⟩
  ·obtain⟨k,j⟩:=s
   obtain⟨rfl,hk0,hk,hall⟩:=hs
   simp only at hk0 hk ⊢
   unfold laws_szPointS_l1_b
   by_cases hn:i<l.length
   ·obtain⟨x,hx⟩:=get_at hn
    rw[if_pos (by omega),if_pos (by omega),Int.toNat_natCast,hx,obs]
    unfold laws_szPoint
    rcases szInt64S_out x k (hl.2 x (List.mem_of_getElem? hx)).1 hk0 (by omega) with h1 |⟨k',h1,ha,hb,hsm⟩
    ·rw[h1];exact .inl ⟨_,by simp,.inl rfl⟩
    ·rw[h1,obs,if_neg (by omega),obs,if_neg (by omega),w1 (by omega)]
     refine .inr ⟨hn,_,rfl,rfl,ha,by simp only;omega,fun j hj y hy=>?_⟩
     by_cases hji:j=i
     ·subst hji;rw[hx] at hy;cases hy;exact hsm
     ·exact hall j (by omega) y hy
   ·have:i=l.length:=by omega
    subst this
    rw[if_neg (by omega)]
    exact .inl ⟨_,rfl,.inr ⟨k,rfl,hk0,hk,all_get.1 hall⟩⟩
theorem szSel_out (s:DSel) (h:Gd.ok s):laws_szSelection s 1048576=some (-1)∨∃ k,laws_szSelection s 1048576=some k∧0≤k∧SmS s:=by
 obtain⟨_,g1,g2,g3,g4,g5⟩:=h
 unfold laws_szSelection
 rcases szInt64S_out s.2.1 1048576 g1.1 (by omega) (by omega) with e |⟨k1,e,a,b,m1⟩
 ·rw[e];exact .inl (by simp)
 rw[e,obs,if_neg (by omega)]
 rcases szInt64S_out s.2.2.1 k1 g2.1 a (by omega) with e |⟨k2,e,a,b,m2⟩
 ·rw[e];exact .inl (by simp)
 rw[e,obs,if_neg (by omega)]
 rcases szInt64S_out s.2.2.2.1 k2 g3.1 a (by omega) with e |⟨k3,e,a,b,m3⟩
 ·rw[e];exact .inl (by simp)
 rw[e,obs,if_neg (by omega)]
 rcases szInt64S_out s.2.2.2.2.1 k3 g4.1 a (by omega) with e |⟨k4,e,a,b,m4⟩
 ·rw[e];exact .inl (by simp)
 rw[e,obs,if_neg (by omega)]
 rcases szPointS_out s.2.2.2.2.2 k4 g5 a (by omega) with e |⟨k5,e,a,b,m5⟩
 ·rw[e];exact .inl (by simp)
 rw[e,obs,if_neg (by omega)]
 exact .inr ⟨_,rfl,a,m1,m2,m3,m4,m5⟩
theorem toInt64S_out (l:List Int) (h:SmI l):laws_toInt64S l=some l:=by
 unfold SmI at h
 unfold laws_toInt64S laws_toInt64S_l1
 rw[mkL_ok 8 _ _ (by unfold maxRow;omega) (by unfold maxRow;omega),obs,loop_copy l (fun s=>laws_toInt64S_l1_b l s.1 s.2) (fun m i x hi hx hm=>?_) (fun m=>?_) _ (by simp),obs]
 ·obtain⟨y,hy⟩:=get_at (l:=m) (by omega:i<m.length)
  have hx':=(List.getElem?_eq_some_iff.1 hx).2
  simp[laws_toInt64S_l1_b,hi,hx',hm,w1 (show i<9223372036854775807 by omega)]
 ·simp[laws_toInt64S_l1_b]
theorem toPointS_out (l:List (List Int)) (h:SmP l):laws_toPointS l=some l:=by
 have h1:=h.1
 unfold laws_toPointS laws_toPointS_l1
 rw[mkL_ok 24 _ _ (by unfold maxRow;omega) (by unfold maxRow;omega),obs,loop_copy l (fun s=>laws_toPointS_l1_b l s.1 s.2) (fun m i x hi hx hm=>?_) (fun m=>?_) _ (by simp),obs]
 ·obtain⟨y,hy⟩:=get_at (l:=m) (by omega:i<m.length)
  unfold laws_toPointS_l1_b laws_toPoint
  rw[if_pos (by simp only;omega),if_pos (by simp only;omega)]
  simp only[Int.toNat_natCast,hx,obs]
  rw[toInt64S_out x (h.2 x (List.mem_of_getElem? hx)),obs,obs,if_pos (by omega),hy,obs,w1 (by omega)]
 ·simp[laws_toPointS_l1_b]
theorem toSel_out (s:DSel) (h:SmS s):laws_toSelection s=some s:=by
 unfold laws_toSelection
 rw[toInt64S_out _ h.1,obs,toInt64S_out _ h.2.1,obs,toInt64S_out _ h.2.2.1,obs,toInt64S_out _ h.2.2.2.1,obs,toPointS_out _ h.2.2.2.2,obs]
theorem eqInt64S_same (l:List Int) (h:SmI l):laws_eqInt64S l l=some true:=by
 unfold SmI at h
 unfold laws_eqInt64S laws_eqInt64S_l1
 rw[if_neg (by simp),loop_eq l l rfl (fun s=>laws_eqInt64S_l1_b l l s) (.inl ()) (.inr false) (fun i x hi hx hx2=>by
  have hx':=(List.getElem?_eq_some_iff.1 hx).2
  simp[laws_eqInt64S_l1_b,hi,hx',w1 (show i<9223372036854775807 by omega)]) (fun i x y hi hx hy hxy=>by
  rw[hx] at hy;cases hy;exact absurd rfl hxy) (by simp[laws_eqInt64S_l1_b])]
 simp
theorem eqPointS_same (l:List (List Int)) (h:SmP l):laws_eqPointS l l=some true:=by
 have h1:=h.1
 unfold laws_eqPointS laws_eqPointS_l1
 rw[if_neg (by simp),loop_eq l l rfl (fun s=>laws_eqPointS_l1_b l l s) (.inl ()) (.inr false) (fun i x hi hx hx2=>by
  unfold laws_eqPointS_l1_b laws_eqPoint
  rw[if_pos (by omega),if_pos (by omega),Int.toNat_natCast,hx,obs,if_pos (by omega),obs,eqInt64S_same x (h.2 x (List.mem_of_getElem? hx)),w1 (by omega)]
  rfl) (fun i x y hi hx hy hxy=>by
  rw[hx] at hy;cases hy;exact absurd rfl hxy) (by simp[laws_eqPointS_l1_b])]
 simp
theorem eqSel_same (s:DSel) (h:SmS s):laws_eqSelection s s=some true:=by
 unfold laws_eqSelection
 rw[if_neg (by simp),eqInt64S_same _ h.1,eqInt64S_same _ h.2.1,eqInt64S_same _ h.2.2.1,eqInt64S_same _ h.2.2.2.1,eqPointS_same _ h.2.2.2.2]
 rfl
open Classical in
theorem equal_out (l m:List Int) (h:SmI l):slices_Equal_int64_int64_ l m=some (decide (l=m)):=by
 unfold SmI at h
 unfold slices_Equal_int64_int64_ slices_Equal_int64_int64__l1
 by_cases hl:l.length=m.length
 ·rw[if_neg (by omega),loop_eq l m hl (fun s=>slices_Equal_int64_int64__l1_b l m (l.length:Int) s) (.inl ()) (.inr false) (fun i x hi hx hx2=>?_) (fun i x y hi hx hy hxy=>?_) (by simp[slices_Equal_int64_int64__l1_b]),obs]
  ·by_cases he:l=m
   ·rw[if_pos he];exact dT he
   ·rw[if_neg he];exact dF he
  ·unfold slices_Equal_int64_int64__l1_b
   rw[if_pos (by omega),if_pos (by omega),Int.toNat_natCast,hx,obs,if_pos (by omega),hx2,obs,if_neg (by simp),w1 (by omega)]
  ·unfold slices_Equal_int64_int64__l1_b
   rw[if_pos (by omega),if_pos (by omega),Int.toNat_natCast,hx,obs,if_pos (by omega),hy,obs,if_pos hxy]
 ·rw[if_pos (by omega)]
  exact dF (fun he=>hl (by rw[he]))
open Classical in
theorem equalL_out (l m:List (List Int)) (h:SmP l):slices_EqualFunc__int64___int64__int64__int64__slices_Equal_int64_int64_ l m=some (decide (l=m)):=by
 have h1:=h.1
 unfold slices_EqualFunc__int64___int64__int64__int64__slices_Equal_int64_int64_ slices_EqualFunc__int64___int64__int64__int64__slices_Equal_int64_int64__l1
 by_cases hl:l.length=m.length
 ·rw[if_neg (by omega),loop_eq l m hl (fun s=>slices_EqualFunc__int64___int64__int64__int64__slices_Equal_int64_int64__l1_b m l (l.length:Int) s) (.inl ()) (.inr false) (fun i x hi hx hx2=>?_) (fun i x y hi hx hy hxy=>?_) (by simp[slices_EqualFunc__int64___int64__int64__int64__slices_Equal_int64_int64__l1_b]),obs]
  ·by_cases he:l=m
   ·rw[if_pos he];exact dT he
   ·rw[if_neg he];exact dF he
  ·unfold slices_EqualFunc__int64___int64__int64__int64__slices_Equal_int64_int64__l1_b
   rw[if_pos (by omega),if_pos (by omega),Int.toNat_natCast,hx,obs,if_pos (by omega),hx2,obs,equal_out _ _ (h.2 _ (List.mem_of_getElem? hx)),obs,if_neg (by simp),w1 (by omega)]
  ·unfold slices_EqualFunc__int64___int64__int64__int64__slices_Equal_int64_int64__l1_b
   rw[if_pos (by omega),if_pos (by omega),Int.toNat_natCast,hx,obs,if_pos (by omega),hy,obs,equal_out _ _ (h.2 _ (List.mem_of_getElem? hx)),obs,if_pos (by simpa using hxy)]
 ·rw[if_pos (by omega)]
  exact dF (fun he=>hl (by rw[he]))
theorem samePs_out (l:List (List Int)) (h:SmP l):slices_EqualFunc_impl_Point__impl_Point_impl_Point_impl_Point__samePoint l l=some true:=by
 have h1:=h.1
 unfold slices_EqualFunc_impl_Point__impl_Point_impl_Point_impl_Point__samePoint slices_EqualFunc_impl_Point__impl_Point_impl_Point_impl_Point__samePoint_l1
 rw[if_neg (by omega),loop_eq l l rfl (fun s=>slices_EqualFunc_impl_Point__impl_Point_impl_Point_impl_Point__samePoint_l1_b l l (l.length:Int) s) (.inl ()) (.inr false) (fun i x hi hx hx2=>?_) (fun i x y hi hx hy hxy=>by rw[hx] at hy;cases hy;exact absurd rfl hxy) (by simp[slices_EqualFunc_impl_Point__impl_Point_impl_Point_impl_Point__samePoint_l1_b]),obs]
 ·simp
 ·unfold slices_EqualFunc_impl_Point__impl_Point_impl_Point_impl_Point__samePoint_l1_b impl_samePoint
  rw[if_pos (by omega),if_pos (by omega),Int.toNat_natCast,hx,obs,if_pos (by omega),obs,equal_out _ _ (h.2 _ (List.mem_of_getElem? hx)),w1 (by omega)]
  simp
def NoL (s:DSel):Prop:=s.2.1=[]∧s.2.2.1=[]∧s.2.2.2.1=[]∧s.2.2.2.2.1=[]
instance (s:DSel):Decidable (NoL s):=by unfold NoL;infer_instance
theorem sameSel_out (s:DSel) (h:SmS s):impl_SameSelection (s.1,[],[],[],[],s.2.2.2.2.2) s=some (decide (NoL s)):=by
 unfold impl_SameSelection impl_Selection_lists
 rw[if_pos rfl,obs,obs]
 unfold lit
 rw[equalL_out _ _ ⟨by simp,fun x hx=>by simp at hx;subst hx;unfold SmI;simp⟩,obs,samePs_out _ h.2.2.2.2]
 by_cases hn:NoL s
 ·obtain⟨a,b,c,d⟩:=hn
  rw[if_pos (by simp[a,b,c,d]),decide_eq_true (show NoL s from ⟨a,b,c,d⟩)];rfl
 ·rw[if_neg (by
   intro hh
   have hh:=of_decide_eq_true hh
   simp only[List.cons.injEq,and_true] at hh
   exact hn ⟨hh.1.symm,hh.2.1.symm,hh.2.2.1.symm,hh.2.2.2.symm⟩),decide_eq_false hn]
theorem plain_out (s:DSel):spec_l06Plain s=some (decide (NoL s)):=by
 unfold spec_l06Plain
 have e:∀ l:List Int,((l.length:Int)=0)↔l=[]:=fun l=>by rw[← List.length_eq_zero_iff];omega
 by_cases a:s.2.1=[]
 ·rw[if_pos ((e _).2 a)]
  by_cases b:s.2.2.1=[]
  ·rw[if_pos ((e _).2 b)]
   by_cases c:s.2.2.2.1=[]
   ·rw[if_pos ((e _).2 c)]
    exact dI ⟨fun d=>⟨a,b,c,(e _).1 d⟩,fun hh=>(e _).2 hh.2.2.2⟩
   ·rw[if_neg (fun hh=>c ((e _).1 hh))];exact dF fun hh=>c hh.2.2.1
  ·rw[if_neg (fun hh=>b ((e _).1 hh))];exact dF fun hh=>b hh.2.1
 ·rw[if_neg (fun hh=>a ((e _).1 hh))];exact dF fun hh=>a hh.1
theorem l00In_out (n a b:Int):spec_l00In n a b=some (decide (a≤n∧n≤b)):=by
 unfold spec_l00In
 by_cases h:n≥a
 ·rw[if_pos h];exact dI ⟨fun k=>⟨h,k⟩,fun k=>k.2⟩
 ·rw[if_neg h];exact dF fun k=>h k.1
theorem within_out (n a b:Int):impl_within n a b=some (decide (a≤n∧n≤b)):=l00In_out n a b
def SlV (s:DSel):Prop:=(∀ x∈s.2.1,0≤x∧x≤40)∧(∀ x∈s.2.2.1,0≤x∧x≤40)∧(∀ x∈s.2.2.2.1,0≤x∧x≤40)∧∀ x∈s.2.2.2.2.1,0≤x∧x≤40
theorem slabLoop_out (s:DSel) (n:Nat) (hn:n≤3) (h1:s.2.1.length=n) (h2:s.2.2.1.length=n) (h3:s.2.2.2.1.length=n) (h4:s.2.2.2.2.1.length=n):∃ r,spec_l06Slab_l1 s (n:Int) 0=some r∧((r=.inl ()∧SlV s)∨r=.inr false):=by
 have key:=loop_ex (f:=fun k:Int=>spec_l06Slab_l1_b s (n:Int) k) (fun r=>(r=.inl ()∧SlV s)∨r=.inr false) n (fun i k=>k=(i:Int)∧∀ j,j<i→∀ x,(s.2.1[j]?=some x∨s.2.2.1[j]?=some x∨s.2.2.2.1[j]?=some x∨s.2.2.2.2.1[j]?=some x)→0≤x∧x≤40) (fun i k hi hk=>?_) n 0 0 (by omega) ⟨rfl,fun j hj=>by omega⟩
 ·exact key
 ·obtain⟨rfl,hall⟩:=hk
  unfold spec_l06Slab_l1_b
  by_cases hni:i<n
  ·obtain⟨x1,e1⟩:=get_at (l:=s.2.1) (i:=i) (by omega)
   obtain⟨x2,e2⟩:=get_at (l:=s.2.2.1) (i:=i) (by omega)
   obtain⟨x3,e3⟩:=get_at (l:=s.2.2.2.1) (i:=i) (by omega)
   obtain⟨x4,e4⟩:=get_at (l:=s.2.2.2.2.1) (i:=i) (by omega)
   have hi0:(0:Int)≤(i:Int):=by omega
   rw[if_pos (by omega)]
   unfold spec_l06End
   simp only[if_pos hi0,Int.toNat_natCast,e1,e2,e3,e4,obs,l00In_out,decide_eq_true_eq,w1 (show i<9223372036854775807 by omega)]
   by_cases c1:0≤x1∧x1≤40
   ·rw[if_neg (not_not_intro c1)]
    by_cases c3:1≤x3∧x3≤40
    ·rw[if_neg (not_not_intro c3)]
     by_cases c4:1≤x4∧x4≤40
     ·rw[if_neg (not_not_intro c4)]
      by_cases c2:x4≤x2∧x2≤40
      ·rw[if_neg (not_not_intro c2)]
       split
       ·exact .inl ⟨_,rfl,.inr rfl⟩
       ·refine .inr ⟨hni,_,rfl,rfl,fun j hj x hx=>?_⟩
        by_cases hji:j=i
        ·subst hji
         rw[e1,e2,e3,e4] at hx
         rcases hx with hx |hx |hx |hx <;> (cases hx;omega)
        ·exact hall j (by omega) x hx
      ·rw[if_pos c2];exact .inl ⟨_,rfl,.inr rfl⟩
     ·rw[if_pos c4];exact .inl ⟨_,rfl,.inr rfl⟩
    ·rw[if_pos c3];exact .inl ⟨_,rfl,.inr rfl⟩
   ·rw[if_pos c1];exact .inl ⟨_,rfl,.inr rfl⟩
  ·have:i=n:=by omega
   subst this
   rw[if_neg (by omega)]
   refine .inl ⟨_,rfl,.inl ⟨rfl,fun x hx=>?_,fun x hx=>?_,fun x hx=>?_,fun x hx=>?_⟩⟩
   ·obtain⟨j,hj,rfl⟩:=List.mem_iff_getElem.1 hx
    exact hall j (by omega) _ (.inl (List.getElem?_eq_getElem hj))
   ·obtain⟨j,hj,rfl⟩:=List.mem_iff_getElem.1 hx
    exact hall j (by omega) _ (.inr (.inl (List.getElem?_eq_getElem hj)))
   ·obtain⟨j,hj,rfl⟩:=List.mem_iff_getElem.1 hx
    exact hall j (by omega) _ (.inr (.inr (.inl (List.getElem?_eq_getElem hj))))
   ·obtain⟨j,hj,rfl⟩:=List.mem_iff_getElem.1 hx
    exact hall j (by omega) _ (.inr (.inr (.inr (List.getElem?_eq_getElem hj))))
theorem slab_out (s:DSel):∃ b,spec_l06Slab s=some b∧(if (s.2.2.2.2.2.length:Int)=0 then impl_Selection_slabFormed s else some false)=some b∧(b=true→s.2.1.length≤3∧s.2.2.1.length≤3∧s.2.2.2.1.length≤3∧s.2.2.2.2.1.length≤3∧SlV s):=by
 unfold spec_l06Slab impl_Selection_slabFormed
 by_cases h1:(s.2.1.length:Int)>3
 ·rw[if_pos h1,if_pos h1];exact⟨false,rfl,by simp,fun h=>by cases h⟩
 rw[if_neg h1,if_neg h1]
 by_cases h2:¬((s.2.2.1.length:Int)=(s.2.1.length:Int))
 ·rw[if_pos h2,if_pos h2];exact⟨false,rfl,by simp,fun h=>by cases h⟩
 rw[if_neg h2,if_neg h2]
 by_cases h3:¬((s.2.2.2.1.length:Int)=(s.2.1.length:Int))
 ·rw[if_pos h3,if_pos h3];exact⟨false,rfl,by simp,fun h=>by cases h⟩
 rw[if_neg h3,if_neg h3]
 by_cases h4:¬((s.2.2.2.2.1.length:Int)=(s.2.1.length:Int))
 ·rw[if_pos h4,if_pos h4];exact⟨false,rfl,by simp,fun h=>by cases h⟩
 rw[if_neg h4,if_neg h4]
 by_cases h5:(s.2.2.2.2.2.length:Int)>0
 ·rw[if_pos h5,if_neg (by omega)];exact⟨false,rfl,rfl,fun h=>by cases h⟩
 rw[if_neg h5,if_pos (by omega)]
 have he:impl_Selection_slabFormed_l1=spec_l06Slab_l1:=rfl
 rw[he]
 obtain⟨r,hr,hx⟩:=slabLoop_out s s.2.1.length (by omega) rfl (by omega) (by omega) (by omega)
 rw[hr]
 rcases hx with ⟨rfl,hv⟩ |rfl
 ·exact⟨true,rfl,rfl,fun _=>⟨by omega,by omega,by omega,by omega,hv⟩⟩
 ·exact⟨false,rfl,rfl,fun h=>by cases h⟩
def PtV (n:Nat) (x:List Int):Prop:=x.length=n∧x.length≤3∧∀ y∈x,0≤y∧y≤39
instance (n:Nat) (x:List Int):Decidable (PtV n x):=by unfold PtV;infer_instance
theorem ptLoop_out (l:List (List Int)) (i:Nat) (x:List Int) (hx:l[i]?=some x) (hl:x.length≤3):∃ r,spec_l06Points_l2 l (i:Int) 0=some r∧((r=.inl (l,(i:Int))∧∀ y∈x,0≤y∧y≤39)∨r=.inr false∧¬∀ y∈x,0≤y∧y≤39):=by
 unfold spec_l06Points_l2
 rw[loop_mem x (fun y=>0≤y∧y≤39) (fun s=>spec_l06Points_l2_b l (i:Int) s) (.inl (l,(i:Int))) (.inr false) (fun k y hk hy hp=>?_) (fun k y hk hy hp=>?_) (by
   unfold spec_l06Points_l2_b
   simp only[if_pos (show (0:Int)≤(i:Int) by omega),Int.toNat_natCast,hx,obs]
   rw[if_neg (by omega)])]
 ·split
  ·rename_i h;exact⟨_,rfl,.inl ⟨rfl,h⟩⟩
  ·rename_i h;exact⟨_,rfl,.inr ⟨rfl,h⟩⟩
 all_goals unfold spec_l06Points_l2_b
 ·simp only[if_pos (show (0:Int)≤(i:Int) by omega),Int.toNat_natCast,hx,obs]
  rw[if_pos (by omega),if_pos (by omega),hy,obs,l00In_out,obs,if_neg (by simpa using hp),w1 (by omega)]
 ·simp only[if_pos (show (0:Int)≤(i:Int) by omega),Int.toNat_natCast,hx,obs]
  rw[if_pos (by omega),if_pos (by omega),hy,obs,l00In_out,obs,if_pos (by rw[decide_eq_false hp];simp)]
theorem allWithin_out (x:List Int) (a b:Int) (h:x.length≤1048576):∃ c,impl_allWithin x a b=some c∧(c=true↔∀ y∈x,a≤y∧y≤b):=by
 unfold impl_allWithin slices_ContainsFunc_int64_int64__allWithin_c1 slices_IndexFunc_int64_int64__allWithin_c1 slices_IndexFunc_int64_int64__allWithin_c1_l1
 obtain⟨r,hr,hx⟩:=loop_find x (fun y=>a≤y∧y≤b) (fun s=>slices_IndexFunc_int64_int64__allWithin_c1_l1_b x a b (x.length:Int) s) () (fun k y hk hy hp=>by
  unfold slices_IndexFunc_int64_int64__allWithin_c1_l1_b impl_allWithin_c1
  rw[if_pos (by omega),if_pos (by omega),Int.toNat_natCast,hy,obs,within_out,obs,obs,if_neg (by simpa using hp),w1 (by omega)]) (fun k y hk hy hp=>by
  unfold slices_IndexFunc_int64_int64__allWithin_c1_l1_b impl_allWithin_c1
  rw[if_pos (by omega),if_pos (by omega),Int.toNat_natCast,hy,obs,within_out,obs,obs,if_pos (by rw[decide_eq_false hp];simp)]) (by simp[slices_IndexFunc_int64_int64__allWithin_c1_l1_b])
 rw[hr]
 rcases hx with ⟨rfl,hall⟩ |⟨k,rfl,hk,hn⟩
 ·exact⟨true,rfl,by simpa using hall⟩
 ·exact⟨false,by simp[hk],by simpa using hn⟩
theorem points_out (s:DSel) (h:SmP s.2.2.2.2.2):∃ b,spec_l06Points s.2.2.2.2.2=some b∧impl_Selection_pointsFormed s=some b∧(b=true→∀ x∈s.2.2.2.2.2,x.length≤3∧∀ y∈x,0≤y∧y≤39):=by
 revert h
 generalize hp:s.2.2.2.2.2=l
 intro h
 unfold spec_l06Points impl_Selection_pointsFormed
 rw[hp,l00In_out,within_out,obs,obs]
 by_cases hc:¬((1:Int)≤(l.length:Int)∧(l.length:Int)≤24)
 ·rw[if_pos (by rw[decide_eq_false hc];simp),if_pos (by rw[decide_eq_false hc];simp)];exact⟨false,rfl,rfl,fun h=>by cases h⟩
 have hc:=Decidable.not_not.1 hc
 rw[if_neg (by rw[decide_eq_true hc];simp),if_neg (by rw[decide_eq_true hc];simp),if_pos (by omega)]
 obtain⟨x0,e0⟩:=get_at (l:=l) (i:=0) (by omega)
 have e0':l[((0:Int)).toNat]?=some x0:=e0
 rw[e0',obs]
 have key:=loop_ex (f:=fun s:List (List Int)×Int=>spec_l06Points_l1_b s.1 s.2) (fun r=>(r=.inl ()∧∀ x∈l,PtV x0.length x)∨r=.inr false∧¬∀ x∈l,PtV x0.length x) l.length (fun i s=>s.1=l∧s.2=(i:Int)∧∀ j,j<i→∀ x,l[j]?=some x→PtV x0.length x) (fun i s hi hs=>?_) l.length 0 (l,0) (by omega) ⟨rfl,rfl,fun j hj=>by omega⟩
 ·obtain⟨r,hr,hx⟩:=key
  have hA:(if (x0.length:Int)≤3 then (slices_ContainsFunc_impl_Point_impl_Point__Selection_pointsFormed_c1 l ((x0.length:Int))).bind fun r3=>some (!r3) else some false)=some (Sum.elim (fun _=>true) id r):=by
   by_cases h3:(x0.length:Int)≤3
   ·rw[if_pos h3]
    have hc1:∀ x∈l,impl_Selection_pointsFormed_c1 x (x0.length:Int)=some (!decide (PtV x0.length x)):=by
     intro x hx
     unfold impl_Selection_pointsFormed_c1
     by_cases hxl:x.length=x0.length
     ·rw[if_neg (by omega)]
      obtain⟨c,h1,h2⟩:=allWithin_out x 0 39 (h.2 x hx)
      rw[h1,obs]
      congr 2
      by_cases hv:PtV x0.length x
      ·rw[decide_eq_true hv];exact h2.2 hv.2.2
      ·rw[decide_eq_false hv]
       cases c with
       |false=>rfl
       |true=>exact absurd ⟨hxl,by omega,h2.1 rfl⟩ hv
     ·rw[if_pos (by omega),decide_eq_false (fun hv=>hxl hv.1)];rfl
    unfold slices_ContainsFunc_impl_Point_impl_Point__Selection_pointsFormed_c1 slices_IndexFunc_impl_Point_impl_Point__Selection_pointsFormed_c1 slices_IndexFunc_impl_Point_impl_Point__Selection_pointsFormed_c1_l1
    obtain⟨q,hq,hy⟩:=loop_find l (fun x=>PtV x0.length x) (fun s=>slices_IndexFunc_impl_Point_impl_Point__Selection_pointsFormed_c1_l1_b l (x0.length:Int) (l.length:Int) s) () (fun k y hk hy hp=>by
     unfold slices_IndexFunc_impl_Point_impl_Point__Selection_pointsFormed_c1_l1_b
     rw[if_pos (by omega),if_pos (by omega),Int.toNat_natCast,hy,obs,hc1 y (List.mem_of_getElem? hy),obs,if_neg (by simpa using hp),w1 (by omega)]) (fun k y hk hy hp=>by
     unfold slices_IndexFunc_impl_Point_impl_Point__Selection_pointsFormed_c1_l1_b
     rw[if_pos (by omega),if_pos (by omega),Int.toNat_natCast,hy,obs,hc1 y (List.mem_of_getElem? hy),obs,if_pos (by rw[decide_eq_false hp];simp)]) (by simp[slices_IndexFunc_impl_Point_impl_Point__Selection_pointsFormed_c1_l1_b])
    rw[hq]
    rcases hx with ⟨rfl,hall⟩ |⟨rfl,hall⟩ <;> rcases hy with ⟨rfl,ha⟩ |⟨k,rfl,hk,hn⟩
    ·rfl
    ·exact absurd hall hn
    ·exact absurd ha hall
    ·simp[hk]
   ·rw[if_neg h3]
    rcases hx with ⟨rfl,hall⟩ |⟨rfl,hall⟩
    ·have:=(hall x0 (List.mem_of_getElem? e0)).2.1;omega
    ·rfl
  rw[hA]
  unfold spec_l06Points_l1
  rw[hr,obs]
  rcases hx with ⟨rfl,hall⟩ |⟨rfl,hall⟩
  ·exact⟨true,rfl,rfl,fun _ x hx=>⟨(hall x hx).2.1,(hall x hx).2.2⟩⟩
  ·exact⟨false,rfl,rfl,fun h=>by cases h⟩
 ·obtain⟨l',k⟩:=s
  obtain⟨rfl,rfl,hall⟩:=hs
  simp only
  unfold spec_l06Points_l1_b
  by_cases hn:i<l'.length
  ·obtain⟨x,hx⟩:=get_at hn
   rw[if_pos (by omega)]
   simp only[if_pos (show (0:Int)≤(i:Int) by omega),Int.toNat_natCast,hx,obs,if_pos (Int.le_refl 0),e0']
   by_cases hxl:(x.length:Int)=(x0.length:Int)
   ·rw[if_neg (not_not_intro hxl)]
    by_cases h3:(x.length:Int)>3
    ·rw[if_pos h3]
     exact .inl ⟨_,rfl,.inr ⟨rfl,fun hh=>by have:=(hh x (List.mem_of_getElem? hx)).2.1;omega⟩⟩
    ·rw[if_neg h3]
     obtain⟨r,hr,hy⟩:=ptLoop_out l' i x hx (by omega)
     rw[hr]
     rcases hy with ⟨rfl,hv⟩ |⟨rfl,hv⟩
     ·refine .inr ⟨hn,_,rfl,rfl,w1 (by omega),fun j hj y hy=>?_⟩
      by_cases hji:j=i
      ·subst hji;rw[hx] at hy;cases hy;exact⟨by omega,by omega,hv⟩
      ·exact hall j (by omega) y hy
     ·exact .inl ⟨_,rfl,.inr ⟨rfl,fun hh=>hv (hh x (List.mem_of_getElem? hx)).2.2⟩⟩
   ·rw[if_pos hxl]
    exact .inl ⟨_,rfl,.inr ⟨rfl,fun hh=>hxl (by have:=(hh x (List.mem_of_getElem? hx)).1;omega)⟩⟩
  ·have:i=l'.length:=by simp only at hi;omega
   subst this
   rw[if_neg (by simp)]
   exact .inl ⟨_,rfl,.inl ⟨rfl,all_get.1 hall⟩⟩
def Fm (s:DSel):Prop:=s.1=1∨s.1=2∨(s.1=3∧Nums s.2.1∧Nums s.2.2.1∧Nums s.2.2.2.1∧Nums s.2.2.2.2.1)∨(s.1=4∧∀ x∈s.2.2.2.2.2,Nums x)
theorem formed_out (s:DSel) (h:SmS s):∃ b,spec_l06Formed s=some b∧impl_FormedSelection s=some b∧(b=true→Fm s):=by
 unfold spec_l06Formed impl_FormedSelection
 rw[sameSel_out s h,obs]
 unfold spec_l06Formed_p1 impl_FormedSelection_p1
 rw[plain_out,obs]
 by_cases k1:s.1=1
 ·rw[if_pos k1,if_pos k1,decide_eq_true k1,if_pos rfl,if_pos rfl]
  by_cases hn:NoL s
  ·rw[decide_eq_true hn,if_pos rfl];exact⟨_,rfl,rfl,fun _=>.inl k1⟩
  ·simp only[decide_eq_false hn,Bool.false_eq_true,if_false];exact⟨_,rfl,rfl,fun _=>.inl k1⟩
 rw[if_neg k1,if_neg k1]
 by_cases k2:s.1=2
 ·rw[decide_eq_true k2,if_pos rfl,if_pos rfl]
  by_cases hn:NoL s
  ·rw[decide_eq_true hn,if_pos rfl];exact⟨_,rfl,rfl,fun _=>.inr (.inl k2)⟩
  ·simp only[decide_eq_false hn,Bool.false_eq_true,if_false];exact⟨_,rfl,rfl,fun _=>.inr (.inl k2)⟩
 simp only[decide_eq_false k2,Bool.false_eq_true,if_false]
 by_cases k3:s.1=3
 ·rw[if_pos k3,if_pos k3]
  obtain⟨b,e1,e2,hb⟩:=slab_out s
  rw[e1,obs]
  have nm:∀ l:List Int,l.length≤3→(∀ x∈l,0≤x∧x≤40)→Nums l:=fun l a c=>⟨by omega,fun x hx=>by have:=c x hx;omega⟩
  by_cases hp:(s.2.2.2.2.2.length:Int)=0
  ·rw[if_pos hp] at e2 ⊢
   rw[e2]
   exact⟨b,rfl,rfl,fun ht=>by
    obtain⟨a1,a2,a3,a4,v1,v2,v3,v4⟩:=hb ht
    exact .inr (.inr (.inl ⟨k3,nm _ a1 v1,nm _ a2 v2,nm _ a3 v3,nm _ a4 v4⟩))⟩
  ·rw[if_neg hp] at e2 ⊢
   cases e2
   exact⟨false,rfl,rfl,fun ht=>by cases ht⟩
 rw[if_neg k3,if_neg k3]
 by_cases k4:s.1=4
 ·rw[if_pos k4,if_pos k4]
  by_cases hn:NoL s
  ·rw[decide_eq_true hn,if_pos rfl,obs,if_pos rfl]
   obtain⟨b,e1,e2,hb⟩:=points_out s h.2.2.2.2
   rw[e1,e2]
   exact⟨b,rfl,rfl,fun ht=>.inr (.inr (.inr ⟨k4,fun x hx=>⟨by have:=(hb ht x hx).1;omega,fun y hy=>by have:=(hb ht x hx).2 y hy;omega⟩⟩))⟩
  ·simp only[decide_eq_false hn,Bool.false_eq_true,if_false,obs]
   exact⟨false,rfl,rfl,fun ht=>by cases ht⟩
 ·rw[if_neg k4,if_neg k4]
  exact⟨false,rfl,rfl,fun ht=>by cases ht⟩
theorem join4 (a b c d sep:Str):Lib.join [a,b,c,d] sep=a++sep++b++sep++c++sep++d:=by
 rw[Lib.join_cons];simp[Lib.joinTail]
theorem textLoop1_out (l:List (List Int)) (hl:l.length≤1048576) (h:∀ x∈l,Nums x):impl_Selection_text_l1 l (l.length:Int) ([],0)=some (l.map listT):=by
 unfold impl_Selection_text_l1
 rw[loop_map l listT (fun s=>impl_Selection_text_l1_b l (l.length:Int) s.1 s.2) (fun i x m hi hx hm=>?_) (fun m=>by simp[impl_Selection_text_l1_b])]
 unfold impl_Selection_text_l1_b
 simp only
 rw[if_pos (by omega),if_pos (by omega),Int.toNat_natCast,hx,obs,listText_out x (h x (List.mem_of_getElem? hx)),obs,appL_one 16 _ _ (by unfold maxRow;omega),obs,w1 (by omega)]
theorem textLoop2_out (l:List (List Int)) (hl:l.length≤1048576) (h:∀ x∈l,Nums x):impl_Selection_text_l2 l (l.length:Int) ([],0)=some (l.map listT):=by
 unfold impl_Selection_text_l2
 rw[loop_map l listT (fun s=>impl_Selection_text_l2_b l (l.length:Int) s.1 s.2) (fun i x m hi hx hm=>?_) (fun m=>by simp[impl_Selection_text_l2_b])]
 unfold impl_Selection_text_l2_b
 simp only
 rw[if_pos (by omega),if_pos (by omega),Int.toNat_natCast,hx,obs,listText_out x (h x (List.mem_of_getElem? hx)),obs,appL_one 16 _ _ (by unfold maxRow;omega),obs,w1 (by omega)]
theorem listT_le' (l:List Int) (h:Nums l):(listT l).length≤23068672:=by
 have:=listT_le l h;have:=h.1;omega
theorem pointsT_le (l:List (List Int)) (hl:l.length≤1048576) (h:∀ x∈l,Nums x):(Lib.join (l.map listT) [59]).length≤24200000000000:=by
 have:=join_le 23068672 [59] (l.map listT) (fun y hy=>by obtain⟨x,hx,rfl⟩:=List.mem_map.1 hy;exact listT_le' x (h x hx))
 simp only[List.length_map,List.length_cons,List.length_nil] at this
 omega
theorem pointsLoop_out (s:DSel) (hl:s.2.2.2.2.2.length≤1048576) (h:∀ x∈s.2.2.2.2.2,Nums x):spec_SelectionText_l1 (s,[],0)=some (Lib.join (s.2.2.2.2.2.map listT) [59]):=by
 unfold spec_SelectionText_l1
 refine loop_text s s.2.2.2.2.2 listT [59] 23068672 (fun x hx=>listT_le' x (h x hx)) (fun s=>spec_SelectionText_l1_b s.1 s.2.1 s.2.2) (fun i x a hi hx ha=>?_) (fun a=>by simp[spec_SelectionText_l1_b])
 have hx':=h x (List.mem_of_getElem? hx)
 have hxl:=listT_le' x hx'
 simp only[List.length_cons,List.length_nil] at ha
 have hwi:=w1 (i:=i) (by omega)
 have hp:∀ b:Str,b.length≤100000000000000→spec_SelectionText_p2 s b (i:Int)=some (s,b++listT x,(i:Int)):=fun b hb=>by
  unfold spec_SelectionText_p2
  rw[if_pos (by omega),Int.toNat_natCast,hx,obs,l05List_out x hx',obs,if_pos (by omega)]
 unfold spec_SelectionText_l1_b
 rw[if_pos (by simp only;omega)]
 by_cases h0:i=0
 ·subst h0
  have:a=[]:=List.eq_nil_of_length_eq_zero (by omega)
  subst this
  rw[if_neg (by simp),hp _ (by simp),obs,if_pos rfl]
  rfl
 ·rw[if_pos (by simp only;omega),if_neg h0,if_pos (by simp only[List.length_cons,List.length_nil];omega),hp _ (by simp only[List.length_append,List.length_cons,List.length_nil];omega),obs]
  simp only[hwi]
theorem text_out (s:DSel) (h:SmS s):∃ t,spec_SelectionText s=some t∧impl_SelectionText s=some t:=by
 unfold spec_SelectionText impl_SelectionText
 obtain⟨b,e1,e2,hb⟩:=formed_out s h
 rw[e1,e2,obs,obs]
 cases b with
 |false=>exact⟨[],by simp,by simp⟩
 |true =>
  rw[if_neg (not_not_intro rfl),if_neg (not_not_intro rfl)]
  unfold impl_Selection_text
  rcases hb rfl with k |k |⟨k,n1,n2,n3,n4⟩ |⟨k,hn⟩
  ·rw[if_pos k,if_pos k];exact⟨_,rfl,rfl⟩
  ·have k1:¬s.1=1:=by omega
   rw[if_neg k1,if_neg k1,if_pos k,if_pos k];exact⟨_,rfl,rfl⟩
  ·have l1:=listT_le' _ n1
   have l2:=listT_le' _ n2
   have l3:=listT_le' _ n3
   have l4:=listT_le' _ n4
   have k1:¬s.1=1:=by omega
   have k2:¬s.1=2:=by omega
   rw[if_neg k1,if_neg k1,if_neg k2,if_neg k2,if_pos k,if_pos k,l05List_out _ n1,l05List_out _ n2,l05List_out _ n3,l05List_out _ n4]
   unfold impl_Selection_lists lit
   have ht:=textLoop1_out [s.2.1,s.2.2.1,s.2.2.2.1,s.2.2.2.2.1] (by simp) (fun x hx=>by
    simp only[List.mem_cons,List.not_mem_nil,or_false] at hx
    rcases hx with rfl |rfl |rfl |rfl <;> assumption)
   simp only[obs]
   rw[ht]
   simp only[List.map_cons,List.map_nil,obs,List.length_append,List.length_cons,List.length_nil]
   have hj:strings_Join [listT s.2.1,listT s.2.2.1,listT s.2.2.2.1,listT s.2.2.2.2.1] [59]=some (listT s.2.1++[59]++listT s.2.2.1++[59]++listT s.2.2.2.1++[59]++listT s.2.2.2.2.1):=by
    show joinS _ _=_
    unfold joinS
    rw[join4,if_pos ⟨by simp,by simp only[List.length_append,List.length_cons,List.length_nil];omega⟩]
   rw[hj]
   simp only[obs,List.length_append,List.length_cons,List.length_nil]
   repeat rw[if_pos (by omega)]
   exact⟨_,rfl,by simp⟩
  ·have lp:=pointsT_le _ h.2.2.2.2.1 hn
   have k1:¬s.1=1:=by omega
   have k2:¬s.1=2:=by omega
   have k3:¬s.1=3:=by omega
   rw[if_neg k1,if_neg k1,if_neg k2,if_neg k2,if_neg k3,if_neg k3,pointsLoop_out s h.2.2.2.2.1 hn,textLoop2_out _ h.2.2.2.2.1 hn,obs,obs]
   have hj:strings_Join (s.2.2.2.2.2.map listT) [59]=some (Lib.join (s.2.2.2.2.2.map listT) [59]):=by
    show joinS _ _=_
    unfold joinS
    rw[if_pos ⟨by rw[List.length_map];have:=h.2.2.2.2.1;omega,by omega⟩]
   rw[hj]
   simp only[obs,List.length_append,List.length_cons,List.length_nil]
   repeat rw[if_pos (by omega)]
   exact⟨_,rfl,rfl⟩
theorem FnExactSelectionText_true (s:DSel) (h:Gd.ok s):laws_FnExactSelectionText s=some true:=by
 unfold laws_FnExactSelectionText
 rcases szSel_out s h with e |⟨k,e,hk,hs⟩
 ·rw[e,obs,if_pos (by omega)]
 ·obtain⟨t,t1,t2⟩:=text_out s hs
  rw[e,obs,if_neg (by omega),toSel_out s hs,obs,t1,obs,obs,t2,obs,if_neg (not_not_intro rfl),obs,eqSel_same s hs,obs,if_neg (not_not_intro rfl)]
end Go.Proofs.TM
