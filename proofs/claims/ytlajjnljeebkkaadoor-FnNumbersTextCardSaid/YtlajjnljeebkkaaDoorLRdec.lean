import Derived.Test.YtlajjnljeebkkaaDoorTTxt
import Derived.Lib.ParseIntBTie
import Derived.Lib.ParseIntBCases
import Derived.Lib.ItoaLen
namespace Go.Proofs.TM
open Go Go.Proofs
set_option maxHeartbeats 1000000
theorem dig_toNat (k:Nat) (h:k<10):(UInt8.ofNat (48+k)).toNat=48+k:=by
 rw[UInt8.toNat_ofNat'];omega
theorem parseM_dec (r:List UInt8) (u:Nat):u≤2 ^ 64-1→Lib.parseUintM (2 ^ 64-1) 0 (Lib.decDigits u++r)=Lib.parseUintM (2 ^ 64-1) u r:=by
 induction u using Nat.strongRecOn generalizing r with
 |_ u ih =>
  intro hu
  by_cases h:u<10
  ·rw[Lib.decDigits_one h]
   simp only[List.cons_append,List.nil_append]
   rw[Lib.parseUintM,dig_toNat u h,if_pos (by omega),if_neg (by omega),if_neg (by omega)]
   congr 1;omega
  ·rw[show Lib.decDigits u=Lib.decDigits (u / 10)++[UInt8.ofNat (48+u % 10)] by rw[Lib.decDigits,dif_neg h],List.append_assoc,ih (u / 10) (by omega) _ (by omega)]
   simp only[List.cons_append,List.nil_append]
   rw[Lib.parseUintM,dig_toNat _ (by omega),if_pos (by omega),if_neg (by omega),if_neg (by omega)]
   congr 1;omega
theorem dec_ne (u:Nat):∃ (k:Nat) (t:List UInt8),k<10∧Lib.decDigits u=UInt8.ofNat (48+k)::t:=by
 induction u using Nat.strongRecOn with
 |_ u ih =>
  by_cases h:u<10
  ·exact⟨u,[],h,Lib.decDigits_one h⟩
  ·obtain⟨k,t,hk,e⟩:=ih (u / 10) (by omega)
   exact⟨k,t++[UInt8.ofNat (48+u % 10)],hk,by rw[Lib.decDigits,dif_neg h,e];rfl⟩
theorem parse_itoa (n:Int) (h0:-9223372036854775808≤n) (h1:n≤9223372036854775807):Lib.parseIntB 64 (Lib.itoa n)=.ok n:=by
 have hU:∀ u:Nat,u≤9223372036854775808→Lib.parseUintB 64 (Lib.decDigits u)=.ok u:=fun u hu=>by
  obtain⟨k,t,hk,e⟩:=dec_ne u
  unfold Lib.parseUintB
  rw[if_neg (by rw[e];simp),show Lib.decDigits u=Lib.decDigits u++[] by simp,parseM_dec [] u (by omega)]
  rfl
 unfold Lib.itoa
 by_cases hn:n<0
 ·rw[if_pos hn,Lib.parseIntB_minus,hU _ (by omega)]
  simp only[Lib.signedC]
  rw[if_neg (by omega)]
  congr 1;omega
 ·rw[if_neg hn]
  obtain⟨k,t,hk,e⟩:=dec_ne n.toNat
  have hk':=dig_toNat k hk
  have:=hU n.toNat (by omega)
  rw[e] at this ⊢
  rw[Lib.parseIntB_plain _ _ _ (by omega) (by omega),this]
  simp only[Lib.signlessC]
  rw[if_neg (by omega)]
  congr 1;omega
theorem rdecS_itoa (n:Int) (h0:-9223372036854775808≤n) (h1:n≤9223372036854775807):rdecS (Lib.itoa n)=some (n,true):=by
 unfold rdecS
 have:=Lib.itoa_length_le n h0 h1
 rw[if_pos (by omega),parse_itoa n h0 h1]
 simp
theorem rdecS_some (s:Str) (h:s.length≤140737488355328):∃ n b,rdecS s=some (n,b)∧(-9223372036854775808≤n∧n≤9223372036854775807)∧(b=true→s=Lib.itoa n):=by
 unfold rdecS
 rw[if_pos h]
 cases hp:Lib.parseIntB 64 s with
 |ok v =>
  have hv:=Lib.parseIntB_bounds hp
  exact⟨v,_,rfl,⟨by have:=hv.1;simp at this;omega,by have:=hv.2;simp at this;omega⟩,fun hb=>(of_decide_eq_true hb).symm⟩
 |«syntax»=>exact⟨0,false,rfl,by omega,fun hb=>by cases hb⟩
 |range =>
  refine⟨_,false,rfl,?_,fun hb=>by cases hb⟩
  unfold Lib.intSat
  split <;> omega
end Go.Proofs.TM
