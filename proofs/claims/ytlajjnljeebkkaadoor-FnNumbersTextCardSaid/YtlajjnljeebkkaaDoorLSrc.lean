import Derived.Test.YtlajjnljeebkkaaDoorLBase
namespace Go.Proofs.TM
open Go Go.Proofs
set_option maxHeartbeats 1000000
theorem and255u (x:Int):0≤bitV .and .u64 x 255∧bitV .and .u64 x 255≤255:=by
 have h:((BitVec.ofInt 64 x) &&& (BitVec.ofInt 64 255)).toNat≤255:=by
  rw[BitVec.toNat_and];exact Nat.le_trans Nat.and_le_right (by decide)
 have e:bitV .and .u64 x 255=IntKind.u64.wrap (((BitVec.ofInt 64 x) &&& (BitVec.ofInt 64 255)).toNat:Int):=rfl
 rw[e]
 generalize ((BitVec.ofInt 64 x) &&& (BitVec.ofInt 64 255)).toNat=m at h
 rw[IntKind.wrap_u64];omega
theorem next_out (c:List Bt) (a s:Int) (h0:0≤a) (h1:a≤1000000):∃ s' v,spec_l00Src_next_o9d c a s=some (c,a+1,s',v)∧0≤v∧v≤255:=by
 have hp:∀ b:Int,0≤b→b≤255→∃ s' v,spec_l00Src_next_o9d_p1 c a s b=some (c,a+1,s',v)∧0≤v∧v≤255:=fun b hb hb'=>by
  unfold spec_l00Src_next_o9d_p1
  rw[wrap_in (n:=a+1) (by omega) (by omega)]
  split
  ·exact⟨_,_,rfl,hb,hb'⟩
  ·have:=and255u (shrV .u64 (IntKind.u64.wrap (IntKind.u64.wrap (IntKind.u64.wrap (s*6364136223846793005)+IntKind.u64.wrap b)+1442695040888963407)) 40)
   exact⟨_,_,rfl,by rw[wrap_in (by omega) (by omega)];exact this.1,by rw[wrap_in (by omega) (by omega)];exact this.2⟩
 unfold spec_l00Src_next_o9d
 by_cases h:a<(c.length:Int)
 ·rw[if_pos h,if_pos h0]
  obtain⟨x,hx⟩:=get_at (l:=c) (i:=a.toNat) (by omega)
  have hb:(x.v.toNat:Int)≤255:=by have:=x.v.toNat_lt;omega
  rw[hx,obs,wrap_in (n:=(x.v.toNat:Int)) (by omega) (by omega)]
  obtain⟨s',v,e,h2⟩:=hp x.v.toNat (by omega) hb
  exact⟨s',v,by rw[e];rfl,h2⟩
 ·rw[if_neg h]
  obtain⟨s',v,e,h2⟩:=hp 0 (by omega) (by omega)
  exact⟨s',v,by rw[e];rfl,h2⟩
theorem pick_out (c:List Bt) (a s n:Int) (h0:0≤a) (h1:a≤999999):∃ a' s' v,spec_l00Src_pick_o30 c a s n=some (c,a',s',v)∧(a≤a'∧a'≤a+2)∧0≤v∧(v<n∨v=0):=by
 unfold spec_l00Src_pick_o30
 by_cases hn:n≤1
 ·rw[if_pos hn];exact⟨a,s,0,rfl,by omega,by omega,.inr rfl⟩
 rw[if_neg hn]
 obtain⟨s1,v1,e1,l1,u1⟩:=next_out c a s h0 (by omega)
 rw[e1,obs]
 have hz:¬n=0:=by omega
 have tm:∀ v:Int,0≤v→0≤Int.tmod v n∧Int.tmod v n<n:=fun v hv=>by
  rw[Int.tmod_eq_emod_of_nonneg hv]
  exact⟨Int.emod_nonneg _ (by omega),Int.emod_lt_of_pos _ (by omega)⟩
 by_cases h2:n>200
 ·rw[if_pos h2]
  obtain⟨s2,v2,e2,l2,u2⟩:=next_out c (a+1) s1 (by omega) (by omega)
  simp only
  rw[e2,obs,if_neg hz]
  have e3:IntKind.i64.wrap (v1*256)=v1*256:=wrap_in (by omega) (by omega)
  have e4:IntKind.i64.wrap (v1*256+v2)=v1*256+v2:=wrap_in (by omega) (by omega)
  have:=tm (v1*256+v2) (by omega)
  refine⟨a+1+1,s2,_,rfl,by omega,?_,?_⟩
  ·simp only[e3,e4];exact this.1
  ·simp only[e3,e4];exact .inl this.2
 ·rw[if_neg h2,if_neg hz]
  have:=tm v1 l1
  exact⟨a+1,s1,_,rfl,by omega,this.1,.inl this.2⟩
theorem one_out (c:List Bt) (a s n:Int) (h0:0≤a) (h1:a≤999999):∃ a' s' b,spec_l00Src_one_o30 c a s n=some (c,a',s',b)∧(a≤a'∧a'≤a+2):=by
 obtain⟨a',s',v,e,h2,_⟩:=pick_out c a s n h0 h1
 exact⟨a',s',_,by unfold spec_l00Src_one_o30;rw[e];rfl,h2⟩
theorem among_out (c:List Bt) (a s:Int) (l:List Int) (hl:0<l.length) (h0:0≤a) (h1:a≤999999):∃ a' s' x,spec_l00Src_among_o72 c a s l=some (c,a',s',l,x)∧(a≤a'∧a'≤a+2)∧x∈l:=by
 obtain⟨a',s',v,e,h2,h3,h4⟩:=pick_out c a s l.length h0 h1
 obtain⟨x,hx⟩:=get_at (l:=l) (i:=v.toNat) (by omega)
 refine⟨a',s',x,?_,h2,List.mem_of_getElem? hx⟩
 unfold spec_l00Src_among_o72
 rw[e,obs]
 simp only
 rw[if_pos (by omega),hx];rfl
end Go.Proofs.TM
