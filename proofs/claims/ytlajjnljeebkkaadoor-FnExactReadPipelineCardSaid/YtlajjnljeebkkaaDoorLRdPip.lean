import Derived.Test.YtlajjnljeebkkaaDoorLRdPipI
import Derived.Test.YtlajjnljeebkkaaDoorLRdPipS
namespace Go.Proofs.TM
open Go Go.Proofs
set_option maxHeartbeats 1000000
theorem eqFil_same (l:List DFil) (h:l.length≤1048576):laws_eqFilterS l l=some true:=by
 have he:∀ x:DFil,laws_eqFilter x x=some true:=fun x=>by unfold laws_eqFilter;simp
 unfold laws_eqFilterS laws_eqFilterS_l1
 rw[if_neg (by simp),loop_eq l l rfl (fun s=>laws_eqFilterS_l1_b l l s) (.inl ()) (.inr false) (fun i x hi hx hx2=>by
  have hx':=(List.getElem?_eq_some_iff.1 hx).2
  simp[laws_eqFilterS_l1_b,hi,hx',he,w1 (show i<9223372036854775807 by omega)]) (fun i x y hi hx hy hxy=>by
  rw[hx] at hy;cases hy;exact absurd rfl hxy) (by simp[laws_eqFilterS_l1_b])]
 simp
def eFil (k:Int):DFil:=(k,k+1,decide (Int.tmod (k+1+1) 3=0))
theorem wr3 {k:Int} (h0:0≤k) (hk:k≤4611686018427387904):IntKind.i64.wrap (k+1)=k+1∧IntKind.i64.wrap (k+1+1)=k+1+1∧IntKind.i64.wrap (k+1+1+1)=k+3 :=
 ⟨wrap_in (by omega) (by omega),wrap_in (by omega) (by omega),by rw[wrap_in (by omega) (by omega)];omega⟩
theorem markFil_out (l:List DFil) (h:l.length≤1048576) (K:Int) (h0:0≤K) (hK:K≤1073741824):∃ m,laws_markFilterS_o8d l K=some (m,K+3*l.length)∧m.length=l.length∧Marked eFil 3 K m:=by
 unfold laws_markFilterS_o8d laws_markFilterS_o8d_l1
 obtain⟨m,h1,h2,h3⟩:=loop_mark 3 eFil l.length K (fun s=>laws_markFilterS_o8d_l1_b s.1 s.2.1 s.2.2) (fun m i k hi hm hk=>by
  obtain⟨y,hy⟩:=get_at (l:=m) (by omega:i<m.length)
  obtain⟨e1,e2,e3⟩:=wr3 (k:=k) (by omega) (by omega)
  unfold laws_markFilterS_o8d_l1_b
  have hc:0≤(i:Int)∧(i:Int)<((m.length:Nat):Int):=⟨by omega,by omega⟩
  simp only
  rw[if_pos hc.2,if_pos hc,Int.toNat_natCast,hy,obs,if_pos hc,List.getElem?_set_self (by omega),obs,if_pos hc,List.getElem?_set_self (by rw[List.length_set];omega),obs,e1,e2,e3,w1 (by omega)]
  simp only[List.set_set]
  rfl) (fun m k hm=>by simp[laws_markFilterS_o8d_l1_b,hm]) l rfl
 exact⟨m,by rw[h1];simp,h2,by unfold Marked;rw[h2];exact h3⟩
theorem heldFil_out (l:List DFil) (h:l.length≤1048576) (K:Int) (h0:0≤K) (hK:K≤1073741824) (hm:Marked eFil 3 K l):laws_heldFilterS l K=some (K+3*l.length):=by
 unfold laws_heldFilterS laws_heldFilterS_l1
 rw[loop_held 3 l.length K (fun s=>laws_heldFilterS_l1_b l s.1 s.2) (fun i k hi hk=>by
  have hg:=hm i hi
  rw[show (((3:Nat):Int))=3 from rfl] at hk
  have hg':l[i]?=some (eFil k):=by rw[hg,hk];rfl
  obtain⟨e1,e2,e3⟩:=wr3 (k:=k) (by omega) (by omega)
  unfold laws_heldFilterS_l1_b
  rw[if_pos (by omega),if_pos (by omega),Int.toNat_natCast,hg',obs]
  simp only[eFil]
  rw[if_neg (by simp),if_pos (by omega),obs]
  simp only[e1,e2,e3]
  rw[if_neg (by simp),if_pos (by omega),obs,if_neg (by simp),w1 (by omega)]
  rfl) (fun k=>by simp[laws_heldFilterS_l1_b])]
 simp
theorem FnExactReadPipeline_true (s:Str) (h:Gd.ok s):laws_FnExactReadPipeline s=some true:=by
 unfold laws_FnExactReadPipeline
 by_cases hs:(s.length:Int)>1048576
 ·rw[if_pos hs]
 rw[if_neg hs]
 obtain⟨x,b,e1,e2,l1⟩:∃ x b,spec_ReadPipeline s=some (x,b)∧impl_ReadPipeline s=some (x,b)∧x.length≤4:=by
  by_cases hn:s=noneT
  ·exact⟨[],true,by unfold spec_ReadPipeline;rw[if_pos (show s=[110,111,110,101] from hn)],by unfold impl_ReadPipeline;rw[if_pos (show s=[110,111,110,101] from hn)],by simp⟩
  rcases rdPI_out s (by omega) hn with ⟨x,hx,hxn,hxs,e1⟩ |⟨hno,e1⟩
  ·rcases rdPS_out s (by omega) hn with ⟨y,hy,hyn,hys,e2⟩ |⟨hno,e2⟩
   ·have:x=y:=by
     have q:∀ l:List DFil,VP l→l≠[]→(spl 43 (tP l)).map rF=l:=fun l hl hne=>splP hl hne
     rw[← q x hx hxn,← q y hy hyn,hxs,hys]
    subst this
    exact⟨x,true,e2,e1,hx.1⟩
   ·exact absurd ⟨x,hx,hxn,hxs⟩ hno
  ·rcases rdPS_out s (by omega) hn with ⟨y,hy,hyn,hys,e2⟩ |⟨_,e2⟩
   ·exact absurd ⟨y,hy,hyn,hys⟩ hno
   ·exact⟨_,_,e2,e1,by simp⟩
 rw[e1,obs,e2,obs,eqFil_same x (by omega),obs,if_neg (by simp),if_neg (by simp)]
 obtain⟨m1,a1,a2,a3⟩:=markFil_out x (by omega) 1 (by omega) (by omega)
 have hh:laws_heldFilterS m1 1=some (1+3*(x.length:Int)):=by
  have c1:=heldFil_out m1 (by omega) 1 (by omega) (by omega) a3
  rw[a2] at c1;exact c1
 have f1:fixLen x m1=m1:=by simp[fixLen,a2]
 simp only[a1,obs,a2,if_true,f1]
 rw[hh,obs,if_neg (by omega),if_neg (by simp),eqFil_same x (by omega),obs,if_neg (by simp),if_neg (by simp),obs,if_neg (by omega),if_neg (by simp)]
end Go.Proofs.TM
