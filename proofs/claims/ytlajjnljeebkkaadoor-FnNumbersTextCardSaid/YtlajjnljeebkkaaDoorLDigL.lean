import Derived.Test.YtlajjnljeebkkaaDoorLDig
namespace Go.Proofs.TM
open Go Go.Proofs
set_option maxHeartbeats 1000000
def Nums (l:List Int):Prop:=l.length≤1048576∧∀ x∈l,-9223372036854775808<x∧x≤9223372036854775807
def listT (l:List Int):Str:=Lib.join (l.map Lib.itoa) [44]
theorem listT_le (l:List Int) (h:Nums l):(listT l).length≤l.length*22:=by
 have:=join_le 21 [44] (l.map Lib.itoa) (fun x hx=>by obtain⟨y,hy,rfl⟩:=List.mem_map.1 hx;exact itoa_le y (by have:=h.2 y hy;omega) (h.2 y hy).2)
 simpa [listT] using this
theorem l05List_out (l:List Int) (h:Nums l):spec_l05List l=some (listT l):=by
 unfold spec_l05List spec_l05List_l1
 rw[loop_text l l Lib.itoa [44] 21 (fun x hx=>itoa_le x (by have:=h.2 x hx;omega) (h.2 x hx).2) (fun s=>spec_l05List_l1_b s.1 s.2.1 s.2.2) (fun i x a hi hx ha=>?_) (fun a=>by simp[spec_l05List_l1_b]),obs]
 ·rfl
 ·have hl:=h.1
  have hx':=h.2 x (List.mem_of_getElem? hx)
  have hxl:=itoa_le x (by omega) hx'.2
  simp only[List.length_cons,List.length_nil] at ha
  have hwi:=w1 (i:=i) (by omega)
  have hp:∀ b:Str,b.length≤1000000000→spec_l05List_p2 l b (i:Int)=some (l,b++Lib.itoa x,(i:Int)):=fun b hb=>by
   unfold spec_l05List_p2
   rw[if_pos (by omega),Int.toNat_natCast,hx,obs,l05Digits_out x hx'.1 hx'.2,obs,if_pos (by omega)]
  unfold spec_l05List_l1_b
  rw[if_pos (by simp only;omega)]
  by_cases h0:i=0
  ·subst h0
   have:a=[]:=List.eq_nil_of_length_eq_zero (by omega)
   subst this
   rw[if_neg (by simp),hp _ (by simp),obs,if_pos rfl]
   rfl
  ·rw[if_pos (by simp only;omega),if_neg h0,if_pos (by simp only[List.length_cons,List.length_nil];omega),hp _ (by simp only[List.length_append,List.length_cons,List.length_nil];omega),obs]
   simp only[hwi]
theorem listText_out (l:List Int) (h:Nums l):impl_listText l=some (listT l):=by
 have hl:=h.1
 unfold impl_listText impl_listText_l1
 rw[loop_map l Lib.itoa (fun s=>impl_listText_l1_b l (l.length:Int) s.1 s.2) (fun i x m hi hx hm=>?_) (fun m=>by simp[impl_listText_l1_b]),obs]
 ·have h1:=listT_le l h
  show (joinS (l.map Lib.itoa) [44]).bind _=_
  unfold joinS
  unfold listT at h1 ⊢
  rw[if_pos (by rw[List.length_map];exact⟨by omega,by omega⟩)]
  rfl
 ·have hx':=h.2 x (List.mem_of_getElem? hx)
  unfold impl_listText_l1_b impl_decimal
  rw[if_pos (by simp only;omega),if_pos (by simp only;omega)]
  simp only[Int.toNat_natCast,hx,obs]
  show ((fmtS x).bind _).bind _=_
  unfold fmtS
  rw[if_pos (by omega),obs,obs,appL_one 16 _ _ (by unfold maxRow;omega),obs,w1 (by omega)]
end Go.Proofs.TM
