import Derived.Test.YtakhpblefnpjcaaDoorLTxt
namespace Go.Proofs.TM
open Go Go.Proofs
set_option maxHeartbeats 1000000
theorem digit_byte (k:Nat) (h:k<10):(((lit [(⟨UInt8.ofNat ((IntKind.u8.wrap ((IntKind.i64.wrap (48+(k:Int)))))).toNat⟩:Bt)]:List Bt)).map Bt.v)=[UInt8.ofNat (48+k)]:=by
 have:k=0∨k=1∨k=2∨k=3∨k=4∨k=5∨k=6∨k=7∨k=8∨k=9:=by omega
 rcases this with rfl |rfl |rfl |rfl |rfl |rfl |rfl |rfl |rfl |rfl <;> decide
theorem l05Digits_nat (u:Nat):(u:Int)≤9223372036854775807→∃ N,∀ n,N≤n→spec_l05Digits_it n (u:Int)=some (Lib.decDigits u):=by
 induction u using Nat.strongRecOn with
 |_ u ih =>
  intro hu
  by_cases h:u<10
  ·refine⟨1,fun n hn=>?_⟩
   obtain⟨n,rfl⟩:∃ m,n=m+1:=⟨n-1,by omega⟩
   show spec_l05Digits_W _ _=_
   unfold spec_l05Digits_W
   rw[if_neg (by omega),if_pos (by omega),digit_byte u h,Lib.decDigits_one h]
  ·obtain⟨N,hN⟩:=ih (u / 10) (by omega) (by omega)
   refine⟨N+1,fun n hn=>?_⟩
   obtain⟨n,rfl⟩:∃ m,n=m+1:=⟨n-1,by omega⟩
   show spec_l05Digits_W (spec_l05Digits_it n) _=_
   unfold spec_l05Digits_W
   have h1:Int.tdiv (u:Int) 10=((u / 10:Nat):Int):=by rw[Int.tdiv_eq_ediv_of_nonneg (by omega)];rfl
   have h2:Int.tmod (u:Int) 10=((u % 10:Nat):Int):=by rw[Int.tmod_eq_emod_of_nonneg (by omega)];rfl
   rw[if_neg (by omega),if_neg (by omega),h1,h2,wrap_in (by omega) (by omega),hN n (by omega),obs,digit_byte _ (by omega)]
   have h3:(Lib.decDigits (u / 10)).length≤21:=by
    have:=itoa_le ((u / 10:Nat):Int) (by omega) (by omega)
    rw[show Lib.itoa ((u / 10:Nat):Int)=Lib.decDigits (u / 10) by unfold Lib.itoa;rw[if_neg (by omega),Int.toNat_natCast]] at this
    exact this
   rw[if_pos (by simp only[List.length_cons,List.length_nil];omega)]
   rw[show Lib.decDigits u=Lib.decDigits (u / 10)++[UInt8.ofNat (48+u % 10)] by rw[Lib.decDigits,dif_neg h]]
theorem l05Digits_out (n:Int) (h0:-9223372036854775808<n) (h1:n≤9223372036854775807):spec_l05Digits n=some (Lib.itoa n):=by
 by_cases hn:n<0
 ·obtain⟨N,hN⟩:=l05Digits_nat n.natAbs (by omega)
  have hle:(Lib.decDigits n.natAbs).length≤21:=by
   have:=itoa_le n (by omega) h1
   unfold Lib.itoa at this;rw[if_pos hn,List.length_cons] at this;omega
  refine evO_mk (N+1) fun k hk=>?_
  obtain⟨k,rfl⟩:∃ m,k=m+1:=⟨k-1,by omega⟩
  show spec_l05Digits_W (spec_l05Digits_it k) _=_
  unfold spec_l05Digits_W
  rw[if_pos hn,wrap_in (by omega) (by omega),show (0:Int)-n=(n.natAbs:Int) by omega,hN k (by omega),obs,if_pos (by simp only[List.length_cons,List.length_nil];omega)]
  unfold Lib.itoa
  rw[if_pos hn];rfl
 ·obtain⟨N,hN⟩:=l05Digits_nat n.toNat (by omega)
  refine evO_mk N fun k hk=>?_
  have:=hN k hk
  rw[show ((n.toNat:Nat):Int)=n by omega] at this
  rw[this]
  unfold Lib.itoa;rw[if_neg hn]
def Nums (l:List Int):Prop:=l.length≤1048576∧∀ x∈l,-9223372036854775808<x∧x≤9223372036854775807
def listT (l:List Int):Str:=Lib.join (l.map Lib.itoa) [44]
theorem listT_le (l:List Int) (h:Nums l):(listT l).length≤l.length*22:=by
 have:=join_le 21 [44] (l.map Lib.itoa) (fun x hx=>by obtain⟨y,hy,rfl⟩:=List.mem_map.1 hx;exact itoa_le y (by have:=h.2 y hy;omega) (h.2 y hy).2)
 simpa [listT] using this
theorem l05List_out (l:List Int) (h:Nums l):spec_l05List l=some (listT l):=by
 unfold spec_l05List spec_l05List_l1
 rw[loop_text l l Lib.itoa [44] 21 (fun x hx=>itoa_le x (by have:=h.2 x hx;omega) (h.2 x hx).2) (fun s=>spec_l05List_l1_b s.1 s.2.1 s.2.2) (fun i x a hi hx ha=>?_) (fun a=>by simp[spec_l05List_l1_b]),obs]
 ·rfl
 ·have hl:=h.1
  have hx':=h.2 x (List.mem_of_getElem? hx)
  have hxl:=itoa_le x (by omega) hx'.2
  simp only[List.length_cons,List.length_nil] at ha
  have hwi:=w1 (i:=i) (by omega)
  have hp:∀ b:Str,b.length≤1000000000→spec_l05List_p2 l b (i:Int)=some (l,b++Lib.itoa x,(i:Int)):=fun b hb=>by
   unfold spec_l05List_p2
   rw[if_pos (by omega),Int.toNat_natCast,hx,obs,l05Digits_out x hx'.1 hx'.2,obs,if_pos (by omega)]
  unfold spec_l05List_l1_b
  rw[if_pos (by simp only;omega)]
  by_cases h0:i=0
  ·subst h0
   have:a=[]:=List.eq_nil_of_length_eq_zero (by omega)
   subst this
   rw[if_neg (by simp),hp _ (by simp),obs,if_pos rfl]
   rfl
  ·rw[if_pos (by simp only;omega),if_neg h0,if_pos (by simp only[List.length_cons,List.length_nil];omega),hp _ (by simp only[List.length_append,List.length_cons,List.length_nil];omega),obs]
   simp only[hwi]
theorem listText_out (l:List Int) (h:Nums l):impl_listText l=some (listT l):=by
 have hl:=h.1
 unfold impl_listText impl_listText_l1
 rw[loop_map l Lib.itoa (fun s=>impl_listText_l1_b l (l.length:Int) s.1 s.2) (fun i x m hi hx hm=>?_) (fun m=>by simp[impl_listText_l1_b]),obs]
 ·have h1:=listT_le l h
  show (joinS (l.map Lib.itoa) [44]).bind _=_
  unfold joinS
  unfold listT at h1 ⊢
  rw[if_pos (by rw[List.length_map];exact⟨by omega,by omega⟩)]
  rfl
 ·have hx':=h.2 x (List.mem_of_getElem? hx)
  unfold impl_listText_l1_b impl_decimal
  rw[if_pos (by simp only;omega),if_pos (by simp only;omega)]
  simp only[Int.toNat_natCast,hx,obs]
  show ((fmtS x).bind _).bind _=_
  unfold fmtS
  rw[if_pos (by omega),obs,obs,appL_one 16 _ _ (by unfold maxRow;omega),obs,w1 (by omega)]
end Go.Proofs.TM
