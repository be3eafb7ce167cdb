import Derived.Test.YtlajjnljeebkkaaDoorLRdSpcI
import Derived.Test.YtlajjnljeebkkaaDoorLRdSpcS
import Derived.Test.YtlajjnljeebkkaaDoorLInts
namespace Go.Proofs.TM
open Go Go.Proofs
set_option maxHeartbeats 1000000
theorem eqSpace_same (x:DSpc) (h:x.1.length≤1048576) (h':x.2.length≤1048576):laws_eqSpace x x=some true:=by
 unfold laws_eqSpace
 rw[eqInts_same _ h,obs,if_neg (by simp),eqInts_same _ h',obs,if_neg (by simp)]
theorem FnExactReadSpace_true (s:Str) (h:Gd.ok s):laws_FnExactReadSpace s=some true:=by
 unfold laws_FnExactReadSpace
 by_cases hs:(s.length:Int)>1048576
 ·rw[if_pos hs]
 rw[if_neg hs]
 obtain⟨x,b,e1,e2,l1,l2⟩:∃ x b,spec_ReadSpace s=some (x,b)∧impl_ReadSpace s=some (x,b)∧x.1.length≤3∧x.2.length≤3:=by
  rcases readI_out s (by omega) with ⟨x,hx,hxs,e1⟩ |⟨hn,e1⟩
  ·rcases readS_out s (by omega) with ⟨y,hy,hys,e2⟩ |⟨hn,e2⟩
   ·have:y=x:=by
     have a:=spaceI_text y hy
     have b:=spaceI_text x hx
     rw[hys] at a;rw[hxs,a] at b
     simpa using b
    subst this
    exact⟨y,true,e2,e1,hy.1.1,by rw[hy.2.1];exact hy.1.1⟩
   ·exact absurd ⟨x,hx,hxs⟩ hn
  ·rcases readS_out s (by omega) with ⟨y,hy,hys,e2⟩ |⟨_,e2⟩
   ·exact absurd ⟨y,hy,hys⟩ hn
   ·exact⟨_,_,e2,e1,by simp,by simp⟩
 rw[e1,obs,e2,obs,eqSpace_same x (by omega) (by omega),obs,if_neg (by simp),if_neg (by simp)]
 obtain⟨m1,a1,a2,a3⟩:=markInts_out x.1 (by omega) 1 (by omega) (by omega)
 obtain⟨m2,b1,b2,b3⟩:=markInts_out x.2 (by omega) (1+x.1.length) (by omega) (by omega)
 have hh:laws_heldSpace (m1,m2) 1=some ((1:Int)+(x.1.length:Int)+(x.2.length:Int)):=by
  unfold laws_heldSpace
  have c1:=heldInts_out m1 (by omega) 1 (by omega) (by omega) a3
  have c2:=heldInts_out m2 (by omega) (1+x.1.length) (by omega) (by omega) b3
  rw[a2] at c1;rw[b2] at c2
  rw[c1,obs,if_neg (by omega),c2,obs,if_neg (by omega)]
 have f1:fixLen x.1 m1=m1:=by simp[fixLen,a2]
 have f2:fixLen x.2 m2=m2:=by simp[fixLen,b2]
 unfold laws_markSpace_o0c
 simp only[a1,obs,a2,if_true,b1,b2,f1,f2,true_and]
 rw[hh,obs,if_neg (by omega),if_neg (by simp),eqSpace_same x (by omega) (by omega),obs,if_neg (by simp),if_neg (by simp),obs,if_neg (by omega),if_neg (by simp)]
end Go.Proofs.TM
