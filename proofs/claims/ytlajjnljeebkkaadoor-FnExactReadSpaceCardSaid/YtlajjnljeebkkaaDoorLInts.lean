import Derived.Test.YtlajjnljeebkkaaDoorLBase
namespace Go.Proofs.TM
open Go Go.Proofs
set_option maxHeartbeats 1000000
theorem eqInts_same (l:List Int) (h:l.length≤1048576):laws_eqInt64S l l=some true:=by
 unfold laws_eqInt64S laws_eqInt64S_l1
 rw[if_neg (by simp),loop_eq l l rfl (fun s=>laws_eqInt64S_l1_b l l s) (.inl ()) (.inr false) (fun i x hi hx hx2=>by
  have hx':=(List.getElem?_eq_some_iff.1 hx).2
  simp[laws_eqInt64S_l1_b,hi,hx',w1 (show i<9223372036854775807 by omega)]) (fun i x y hi hx hy hxy=>by
  rw[hx] at hy;cases hy;exact absurd rfl hxy) (by simp[laws_eqInt64S_l1_b])]
 simp
def eInt (k:Int):Int:=k
theorem markInts_out (l:List Int) (h:l.length≤1048576) (K:Int) (h0:0≤K) (hK:K≤1073741824):∃ m,laws_markInt64S_o5f l K=some (m,K+l.length)∧m.length=l.length∧Marked eInt 1 K m:=by
 unfold laws_markInt64S_o5f laws_markInt64S_o5f_l1
 obtain⟨m,h1,h2,h3⟩:=loop_mark 1 eInt l.length K (fun s=>laws_markInt64S_o5f_l1_b s.1 s.2.1 s.2.2) (fun m i k hi hm hk=>by
  obtain⟨y,hy⟩:=get_at (l:=m) (by omega:i<m.length)
  simp[laws_markInt64S_o5f_l1_b,hi,hm,hy,w1 (show i<9223372036854775807 by omega),wrap_in (show -9223372036854775808≤k+1 by omega) (by omega),eInt]) (fun m k hm=>by simp[laws_markInt64S_o5f_l1_b,hm]) l rfl
 exact⟨m,by rw[h1];simp,h2,by unfold Marked;rw[h2];exact h3⟩
theorem heldInts_out (l:List Int) (h:l.length≤1048576) (K:Int) (h0:0≤K) (hK:K≤1073741824) (hm:Marked eInt 1 K l):laws_heldInt64S l K=some (K+l.length):=by
 unfold laws_heldInt64S laws_heldInt64S_l1
 rw[loop_held 1 l.length K (fun s=>laws_heldInt64S_l1_b l s.1 s.2) (fun i k hi hk=>by
  have hg:=hm i hi
  rw[← hk] at hg
  have hg':=(List.getElem?_eq_some_iff.1 hg).2
  simp[laws_heldInt64S_l1_b,hi,hg',eInt,w1 (show i<9223372036854775807 by omega),wrap_in (show -9223372036854775808≤k+1 by omega) (by omega)]) (fun k=>by simp[laws_heldInt64S_l1_b])]
 simp
end Go.Proofs.TM
