import Derived.Test.YtlajjnljeebkkaaDoorLTxt
namespace Go.Proofs.TM
open Go Go.Proofs
set_option maxHeartbeats 1000000
theorem digit_byte (k:Nat) (h:k<10):(((lit [(⟨UInt8.ofNat ((IntKind.u8.wrap ((IntKind.i64.wrap (48+(k:Int)))))).toNat⟩:Bt)]:List Bt)).map Bt.v)=[UInt8.ofNat (48+k)]:=by
 have:k=0∨k=1∨k=2∨k=3∨k=4∨k=5∨k=6∨k=7∨k=8∨k=9:=by omega
 rcases this with rfl |rfl |rfl |rfl |rfl |rfl |rfl |rfl |rfl |rfl <;> decide
theorem l05Digits_nat (u:Nat):(u:Int)≤9223372036854775807→∃ N,∀ n,N≤n→spec_l05Digits_it n (u:Int)=some (Lib.decDigits u):=by
 induction u using Nat.strongRecOn with
 |_ u ih =>
  intro hu
  by_cases h:u<10
  ·refine⟨1,fun n hn=>?_⟩
   obtain⟨n,rfl⟩:∃ m,n=m+1:=⟨n-1,by omega⟩
   show spec_l05Digits_W _ _=_
   unfold spec_l05Digits_W
   rw[if_neg (by omega),if_pos (by omega),digit_byte u h,Lib.decDigits_one h]
  ·obtain⟨N,hN⟩:=ih (u / 10) (by omega) (by omega)
   refine⟨N+1,fun n hn=>?_⟩
   obtain⟨n,rfl⟩:∃ m,n=m+1:=⟨n-1,by omega⟩
   show spec_l05Digits_W (spec_l05Digits_it n) _=_
   unfold spec_l05Digits_W
   have h1:Int.tdiv (u:Int) 10=((u / 10:Nat):Int):=by rw[Int.tdiv_eq_ediv_of_nonneg (by omega)];rfl
   have h2:Int.tmod (u:Int) 10=((u % 10:Nat):Int):=by rw[Int.tmod_eq_emod_of_nonneg (by omega)];rfl
   rw[if_neg (by omega),if_neg (by omega),h1,h2,wrap_in (by omega) (by omega),hN n (by omega),obs,digit_byte _ (by omega)]
   have h3:(Lib.decDigits (u / 10)).length≤21:=by
    have:=itoa_le ((u / 10:Nat):Int) (by omega) (by omega)
    rw[show Lib.itoa ((u / 10:Nat):Int)=Lib.decDigits (u / 10) by unfold Lib.itoa;rw[if_neg (by omega),Int.toNat_natCast]] at this
    exact this
   rw[if_pos (by simp only[List.length_cons,List.length_nil];omega)]
   rw[show Lib.decDigits u=Lib.decDigits (u / 10)++[UInt8.ofNat (48+u % 10)] by rw[Lib.decDigits,dif_neg h]]
theorem l05Digits_out (n:Int) (h0:-9223372036854775808<n) (h1:n≤9223372036854775807):spec_l05Digits n=some (Lib.itoa n):=by
 by_cases hn:n<0
 ·obtain⟨N,hN⟩:=l05Digits_nat n.natAbs (by omega)
  have hle:(Lib.decDigits n.natAbs).length≤21:=by
   have:=itoa_le n (by omega) h1
   unfold Lib.itoa at this;rw[if_pos hn,List.length_cons] at this;omega
  refine evO_mk (N+1) fun k hk=>?_
  obtain⟨k,rfl⟩:∃ m,k=m+1:=⟨k-1,by omega⟩
  show spec_l05Digits_W (spec_l05Digits_it k) _=_
  unfold spec_l05Digits_W
  rw[if_pos hn,wrap_in (by omega) (by omega),show (0:Int)-n=(n.natAbs:Int) by omega,hN k (by omega),obs,if_pos (by simp only[List.length_cons,List.length_nil];omega)]
  unfold Lib.itoa
  rw[if_pos hn];rfl
 ·obtain⟨N,hN⟩:=l05Digits_nat n.toNat (by omega)
  refine evO_mk N fun k hk=>?_
  have:=hN k hk
  rw[show ((n.toNat:Nat):Int)=n by omega] at this
  rw[this]
  unfold Lib.itoa;rw[if_neg hn]
end Go.Proofs.TM
