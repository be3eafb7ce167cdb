import Derived.Test.YtlajjnljeebkkaaDoorLBase
namespace Go.Proofs.TM
open Go Go.Proofs
set_option maxHeartbeats 1000000
theorem l00In_out (n a b:Int):spec_l00In n a b=some (decide (a≤n∧n≤b)):=by
 unfold spec_l00In
 by_cases h:n≥a
 ·rw[if_pos h];exact dI ⟨fun k=>⟨h,k⟩,fun k=>k.2⟩
 ·rw[if_neg h];exact dF fun k=>h k.1
theorem within_out (n a b:Int):impl_within n a b=some (decide (a≤n∧n≤b)):=by
 unfold impl_within
 by_cases h:n≥a
 ·rw[if_pos h];exact dI ⟨fun k=>⟨h,k⟩,fun k=>k.2⟩
 ·rw[if_neg h];exact dF fun k=>h k.1
theorem allWithin_out (x:List Int) (a b:Int) (h:x.length≤140737488355328):∃ c,impl_allWithin x a b=some c∧(c=true↔∀ y∈x,a≤y∧y≤b):=by
 unfold impl_allWithin slices_ContainsFunc_int64_int64__allWithin_c1 slices_IndexFunc_int64_int64__allWithin_c1 slices_IndexFunc_int64_int64__allWithin_c1_l1
 obtain⟨r,hr,hx⟩:=loop_find x (fun y=>a≤y∧y≤b) (fun s=>slices_IndexFunc_int64_int64__allWithin_c1_l1_b x a b (x.length:Int) s) () (fun k y hk hy hp=>by
  unfold slices_IndexFunc_int64_int64__allWithin_c1_l1_b impl_allWithin_c1
  rw[if_pos (by omega),if_pos (by omega),Int.toNat_natCast,hy,obs,within_out,obs,obs,if_neg (by simpa using hp),w1 (by omega)]) (fun k y hk hy hp=>by
  unfold slices_IndexFunc_int64_int64__allWithin_c1_l1_b impl_allWithin_c1
  rw[if_pos (by omega),if_pos (by omega),Int.toNat_natCast,hy,obs,within_out,obs,obs,if_pos (by rw[decide_eq_false hp];simp)]) (by simp[slices_IndexFunc_int64_int64__allWithin_c1_l1_b])
 rw[hr]
 rcases hx with ⟨rfl,hall⟩ |⟨k,rfl,hk,hn⟩
 ·exact⟨true,rfl,by simpa using hall⟩
 ·exact⟨false,by simp[hk],by simpa using hn⟩
def prodW (l:List Int):Int:=l.foldl (fun a x=>IntKind.i64.wrap (a*x)) 1
theorem prodW_snoc (l:List Int) (x:Int):prodW (l++[x])=IntKind.i64.wrap (prodW l*x):=by unfold prodW;rw[List.foldl_append];rfl
def VD (l:List Int):Prop:=l.length≤3∧(∀ x∈l,0≤x∧x≤40)∧prodW l≤600
theorem sDims_out (l:List Int):∃ b,spec_l05Dims l=some b∧(b=true↔VD l):=by
 unfold spec_l05Dims spec_l05Dims_l1 VD
 by_cases h3:(l.length:Int)>3
 ·rw[if_pos h3];exact⟨false,rfl,by simp;omega⟩
 rw[if_neg h3]
 have key:=loop_ex (f:=fun s:Int×Int=>spec_l05Dims_l1_b l s.1 s.2) (fun r=>(r=.inl (prodW l)∧∀ x∈l,0≤x∧x≤40)∨(r=.inr false∧¬∀ x∈l,0≤x∧x≤40)) l.length (fun i s=>s.2=(i:Int)∧s.1=prodW (l.take i)∧∀ j,j<i→∀ x,l[j]?=some x→0≤x∧x≤40) (fun i s hi hs=>?_) l.length 0 (1,0) (by omega) ⟨rfl,by simp[prodW],fun j hj=>by omega⟩
 ·obtain⟨r,hr,hP⟩:=key
  rw[hr,obs]
  rcases hP with ⟨rfl,ha⟩ |⟨rfl,ha⟩
  ·exact⟨_,rfl,by rw[decide_eq_true_eq];exact⟨fun h=>⟨by omega,ha,h⟩,fun h=>h.2.2⟩⟩
  ·exact⟨false,rfl,by simp only[Bool.false_eq_true,false_iff];exact fun h=>ha h.2.1⟩
 ·obtain⟨p,k⟩:=s
  obtain⟨rfl,rfl,hall⟩:=hs
  unfold spec_l05Dims_l1_b
  by_cases hn:i<l.length
  ·obtain⟨x,hx⟩:=get_at hn
   simp only
   rw[if_pos (by omega),if_pos (by omega),Int.toNat_natCast,hx,obs,l00In_out,obs]
   by_cases hp:0≤x∧x≤40
   ·rw[if_neg (by simpa using hp),if_pos (by omega),obs,w1 (by omega)]
    refine .inr ⟨hn,_,rfl,rfl,?_,fun j hj y hy=>?_⟩
    ·rw[List.take_add_one,hx];simp only[Option.toList_some];rw[prodW_snoc]
    ·by_cases hji:j=i
     ·subst hji;rw[hx] at hy;cases hy;exact hp
     ·exact hall j (by omega) y hy
   ·rw[if_pos (by rw[decide_eq_false hp];simp)]
    exact .inl ⟨_,rfl,.inr ⟨rfl,fun h=>hp (h x (List.mem_of_getElem? hx))⟩⟩
  ·have:i=l.length:=by omega
   subst this
   simp only
   rw[if_neg (by omega),List.take_length]
   exact .inl ⟨_,rfl,.inl ⟨rfl,all_get.1 hall⟩⟩
theorem iProd_out (l:List Int) (h:l.length≤1048576):impl_product l=some (prodW l):=by
 unfold impl_product impl_product_l1
 rw[loop_some (r:=prodW l) l.length (fun i s=>s.2=(i:Int)∧s.1=prodW (l.take i)) (fun i s hi hs=>?_) l.length 0 (1,0) (by omega) ⟨rfl,by simp[prodW]⟩]
 ·rfl
 ·obtain⟨p,k⟩:=s
  obtain⟨rfl,rfl⟩:=hs
  unfold impl_product_l1_b
  by_cases hn:i<l.length
  ·obtain⟨x,hx⟩:=get_at hn
   simp only
   rw[if_pos (by omega),if_pos (by omega),Int.toNat_natCast,hx,obs,w1 (by omega)]
   refine .inr ⟨hn,_,rfl,rfl,?_⟩
   rw[List.take_add_one,hx];simp only[Option.toList_some];rw[prodW_snoc]
  ·have:i=l.length:=by omega
   subst this
   simp only
   rw[if_neg (by omega),List.take_length]
   exact .inl rfl
theorem iDims_out (l:List Int):∃ b,impl_ValidDims l=some b∧(b=true↔VD l):=by
 unfold impl_ValidDims VD
 by_cases h3:(l.length:Int)≤3
 ·rw[if_pos h3]
  obtain⟨c,hc,hx⟩:=allWithin_out l 0 40 (by omega)
  rw[hc,obs]
  cases c with
  |false=>exact⟨false,by simp,by simp only[Bool.false_eq_true,false_iff] at hx ⊢;exact fun h=>hx h.2.1⟩
  |true =>
   rw[if_pos rfl,iProd_out l (by omega),obs]
   exact⟨_,rfl,by rw[decide_eq_true_eq];exact⟨fun h=>⟨by omega,hx.1 rfl,h⟩,fun h=>h.2.2⟩⟩
 ·rw[if_neg h3];exact⟨false,rfl,by simp only[Bool.false_eq_true,false_iff];exact fun h=>h3 (by omega)⟩
end Go.Proofs.TM
