import Derived.Test.YtlajjnljeebkkaaDoorLNum
import Derived.Test.YtlajjnljeebkkaaDoorLDrwD
namespace Go.Proofs.TM
open Go Go.Proofs
set_option maxHeartbeats 1000000
theorem drwN_out (c:List Bt) (a s:Int) (d:List Int) (h0:0≤a) (h1:a≤900000) (hd:DD d):∃ a' s' l,spec_l25DrawNumbers_o72 c a s d=some (c,a',s',d,l)∧(a≤a'∧a'≤a+1024)∧(l.length:Int)=prodW d∧∀ x∈l,-3≤x∧x≤5:=by
 have hp:=hd.prod
 unfold spec_l25DrawNumbers_o72 spec_l25DrawNumbers_o72_l1
 rw[sCount_out d (by have:=hd.1;omega),obs]
 have key:=loop_ex (f:=fun t:List Bt×Int×Int×List Int×Int=>spec_l25DrawNumbers_o72_l1_b d t.1 t.2.1 t.2.2.1 t.2.2.2.1 t.2.2.2.2) (fun q=>∃ a' s' l,q=(c,a',s',d,l)∧(a≤a'∧a'≤a+1024)∧(l.length:Int)=prodW d∧∀ x∈l,-3≤x∧x≤5) (prodW d).toNat
  (fun i t=>∃ a' s' l,t=(c,a',s',l,prodW d-i)∧(a≤a'∧a'≤a+2*i)∧l.length=i∧∀ x∈l,-3≤x∧x≤5) (fun i t hi ht=>?_) (prodW d).toNat 0 (c,a,s,[],prodW d) (by omega) ⟨a,s,[],by simp,by omega,rfl,by simp⟩
 ·obtain⟨q,hq,a1,s1,l,rfl,ha1,hl,hx⟩:=key
  rw[hq,obs];exact⟨a1,s1,l,rfl,ha1,hl,hx⟩
 ·obtain⟨a1,s1,l,rfl,ha1,hl,hx⟩:=ht
  unfold spec_l25DrawNumbers_o72_l1_b
  simp only
  by_cases hn:i<(prodW d).toNat
  ·rw[if_pos (by omega)]
   obtain⟨a2,s2,v,e2,ha2,v0,v1⟩:=pick_out c a1 s1 9 (by omega) (by omega)
   rw[e2,obs]
   simp only
   rw[appL_one 8 _ _ (by unfold maxRow;omega),obs]
   refine .inr ⟨hn,_,rfl,a2,s2,l++[IntKind.i64.wrap (v-3)],?_,by omega,by simp[hl],fun x hm=>?_⟩
   ·rw[wrap_in (n:=prodW d-i-1) (by omega) (by omega)];simp only[Prod.mk.injEq,true_and];omega
   ·rcases List.mem_append.1 hm with hm |hm
    ·exact hx x hm
    ·rw[List.mem_singleton,wrap_in (by omega) (by omega)] at hm;subst hm;omega
  ·rw[if_neg (by omega)]
   exact .inl ⟨_,rfl,a1,s1,l,rfl,by omega,by omega,hx⟩
theorem drwN_out' (c:List Bt) (a s:Int) (d:List Int):spec_l25DrawNumbers_obb c a s d=spec_l25DrawNumbers_o72 c a s d:=rfl
theorem vn_of {d l:List Int} (hd:DD d) (h1:(l.length:Int)=prodW d) (h2:∀ x∈l,-3≤x∧x≤5):VN (d,l):=⟨hd.vd,h1,fun x hx=>by have:=h2 x hx;omega⟩
theorem fixL {α:Type} (l:List α):fixLen l l=l:=fixLen_eq rfl
theorem e8N_out (c:List Bt):∃ n m,spec_E8Numbers c=some (n,m)∧VN n:=by
 unfold spec_E8Numbers spec_l00From
 obtain⟨a1,s1,v1,e1,h1,u1,w1⟩:=pick_out c 0 0 5 (by omega) (by omega)
 obtain⟨a2,s2,v2,e2,h2,u2,w2⟩:=pick_out c a1 s1 5 (by omega) (by omega)
 simp only[obs,e1,e2]
 have hd:DD (lit [IntKind.i64.wrap (1+v1),IntKind.i64.wrap (1+v2)]):=by
  unfold lit
  rw[wrap_in (by omega) (by omega),wrap_in (by omega) (by omega)]
  exact⟨by simp,.inl fun x hx=>by simp at hx;omega⟩
 generalize lit [IntKind.i64.wrap (1+v1),IntKind.i64.wrap (1+v2)]=d at hd ⊢
 obtain⟨a3,s3,l3,e3,h3,n3,x3⟩:=drwN_out c a2 s2 d (by omega) (by omega) hd
 obtain⟨a4,s4,l4,e4,h4,n4,x4⟩:=drwN_out c a3 s3 d (by omega) (by omega) hd
 simp only[e3,e4,obs,if_true,fixL]
 exact⟨_,_,rfl,vn_of hd n3 x3⟩
theorem same_same (l:List Int) (h:l.length≤1048576):spec_l00Same l l=some true:=by
 unfold spec_l00Same spec_l00Same_l1
 rw[if_neg (by simp),loop_eq l l rfl (fun s=>spec_l00Same_l1_b l l s) (.inl ()) (.inr false) (fun i x hi hx hx2=>by
  have hx':=(List.getElem?_eq_some_iff.1 hx).2
  simp[spec_l00Same_l1_b,hi,hx',w1 (show i<9223372036854775807 by omega)]) (fun i x y hi hx hy hxy=>by
  rw[hx] at hy;cases hy;exact absurd rfl hxy) (by simp[spec_l00Same_l1_b])]
 simp
theorem sText32_out (n:DNum) (h1:Nums n.1) (h2:Nums n.2) (h3:n.1.length≤3) (h4:n.2.length≤600):∃ t,spec_l32Text n=some t∧t.length≤20000:=by
 have hl:=listT_le n.1 h1
 unfold spec_l32Text spec_l32Text_l1
 rw[l05List_out _ h1,obs,if_pos (by simp only[List.length_cons,List.length_nil];omega),if_pos (by simp only[List.length_append,List.length_cons,List.length_nil];omega)]
 have key:=loop_ex (f:=fun t:Str×Int=>spec_l32Text_l1_b n t.1 t.2) (fun q=>q.length≤20000) n.2.length (fun i t=>t.2=(i:Int)∧t.1.length≤100+22*i) (fun i t hi ht=>?_) n.2.length 0 ([40]++listT n.1++[41],0) (by omega) ⟨rfl,by simp only[List.length_append,List.length_cons,List.length_nil];omega⟩
 ·obtain⟨q,hq,hql⟩:=key
  rw[hq,obs];exact⟨q,rfl,hql⟩
 ·obtain⟨t,k⟩:=t
  obtain⟨rfl,ht⟩:=ht
  simp only at ht
  unfold spec_l32Text_l1_b
  simp only
  by_cases hn:i<n.2.length
  ·obtain⟨x,hx⟩:=get_at hn
   have hx':=h2.2 x (List.mem_of_getElem? hx)
   have hil:=itoa_le x (by omega) hx'.2
   rw[if_pos (by omega),if_pos (by omega),Int.toNat_natCast,hx,obs,l05Digits_out x hx'.1 hx'.2,obs,if_pos (by simp only[List.length_cons,List.length_nil];omega),if_pos (by simp only[List.length_append,List.length_cons,List.length_nil];omega),w1 (by omega)]
   exact .inr ⟨hn,_,rfl,by push_cast;rfl,by simp only[List.length_append,List.length_cons,List.length_nil];omega⟩
  ·rw[if_neg (by omega)];exact .inl ⟨_,rfl,by omega⟩
theorem subL_split (t:Str) (v:Int) (h0:0≤v) (h1:v<t.length∨v=0):∃ a b,subL t none (some v)=some a∧subL t (some v) none=some b∧a.length≤t.length∧b.length≤t.length:=by
 have e:v=((v.toNat:Nat):Int):=by omega
 rw[e]
 exact⟨_,_,subL_to t _ (by omega),subL_from t _ (by omega),by simp;omega,by simp⟩
theorem drawRN_out (c:List Bt):∃ t,spec_DrawReadNumbers c=some t∧t.length≤1048576:=by
 unfold spec_DrawReadNumbers spec_l00From
 obtain⟨a1,s1,d,e1,h1,hd⟩:=drwDims_out c 0 0 (by omega) (by omega)
 obtain⟨a2,s2,l,e2,h2,n2,x2⟩:=drwN_out c a1 s1 d (by omega) (by omega) hd
 have hV:=vn_of hd n2 x2
 obtain⟨t,e3,ht⟩:=sText32_out (d,l) hV.nums.1 hV.nums.2 hV.len.1 hV.len.2
 obtain⟨a4,s4,v,e4,h4,v0,v1⟩:=pick_out c a2 s2 6 (by omega) (by omega)
 simp only[obs,e1,drwN_out',e2,if_true,fixL,e3,e4]
 by_cases hv0:v=0
 ·rw[if_pos hv0]
  obtain⟨a5,s5,u,e5,h5,u0,u1⟩:=pick_out c a4 s4 (t.length:Int) (by omega) (by omega)
  obtain⟨p,q,ep,eq,hp,hq⟩:=subL_split t u u0 (by omega)
  obtain⟨a6,s6,w,e6,h6,hw⟩:=textS_out c a5 s5 (lit [[32],[48],[45],[40],[41],[44],[49]]) (by unfold lit;simp) (by omega) (by omega)
  have hwl:w.length≤1:=by
   unfold lit at hw
   simp only[List.mem_cons,List.not_mem_nil,or_false] at hw
   rcases hw with rfl |rfl |rfl |rfl |rfl |rfl |rfl <;> simp
  simp only[e5,obs,ep,eq,and_self,if_true,e6]
  rw[if_pos (by omega),if_pos (by rw[List.length_append];omega)]
  exact⟨_,rfl,by simp only[List.length_append];omega⟩
 ·rw[if_neg hv0]
  by_cases hv1:v=1
  ·rw[if_pos hv1]
   obtain⟨a6,s6,w,e6,h6,hw⟩:=textS_out c a4 s4 (lit [[],[40,41],[40,41,32,53],[40,41,32,45,48],[40,50,41,32,49],[40,49,41,32,48,49],[40,48,41],[40,48,41,32],[40,41,32,49,48,48,48,48,48,48,48,48,48,48,48,49],[40,41,32,49,50,51,52,53,54,55,56,57,48,49,50,51,52,53,54,55],[120,32,49],[40,49,41,32,32,49]]) (by unfold lit;simp) (by omega) (by omega)
   have hwl:w.length≤100:=by
    unfold lit at hw
    simp only[List.mem_cons,List.not_mem_nil,or_false] at hw
    rcases hw with rfl |rfl |rfl |rfl |rfl |rfl |rfl |rfl |rfl |rfl |rfl |rfl <;> simp
   simp only[e6,obs,if_true]
   exact⟨_,rfl,by omega⟩
  ·rw[if_neg hv1];exact⟨_,rfl,by omega⟩
theorem FnNumbersText_true (c m:List Bt) (h:Gd.ok c) (h':Gd.ok m):laws_FnNumbersText c m=some true:=by
 unfold laws_FnNumbersText
 by_cases h1:(c.length:Int)>1048576
 ·rw[if_pos h1]
 rw[if_neg h1]
 by_cases h2:(m.length:Int)>1048576
 ·rw[if_pos h2]
 rw[if_neg h2]
 obtain⟨n,k,e1,hn⟩:=e8N_out c
 have hl:=hn.len
 rw[e1,obs]
 simp only
 rw[iNumT_out n hn,obs,readN_text n hn,obs]
 simp only[not_true_eq_false,if_false]
 have hs:spec_SameNumbers (n.1,n.2) n=some true:=by
  unfold spec_SameNumbers
  rw[same_same n.1 (by omega),obs,if_pos rfl,same_same n.2 (by omega),obs]
 rw[hs,obs,if_neg (by simp)]
 obtain⟨t,e2,ht⟩:=drawRN_out m
 rw[e2,obs]
 obtain⟨d,l,b,e3,hb⟩:=readN_any t ht
 rw[e3,obs]
 simp only
 cases b with
 |false=>simp
 |true =>
  obtain⟨hV,hT⟩:=hb rfl
  rw[if_neg (by simp),iNumT_out _ hV,obs,if_pos hT]
  unfold spec_ValidNumbers
  obtain⟨v,ev,hv⟩:=sNum_out (d,l) (by have:=hV.len;omega)
  rw[ev,obs,obs,hv.2 hV]
end Go.Proofs.TM
