import Derived.Test.YtlajjnljeebkkaaDoorLBase
import Derived.Lib.ItoaLen
import Derived.Lib.Join
namespace Go.Proofs.TM
open Go Go.Proofs
set_option maxHeartbeats 1000000
theorem join_snoc (xs:List Str) (y sep:Str):Lib.join (xs++[y]) sep=(if xs=[] then [] else Lib.join xs sep++sep)++y:=by
 cases xs with
 |nil=>simp[Lib.join_one]
 |cons x r=>rw[List.cons_append,Lib.join_cons,Lib.join_cons,if_neg (by simp)];simp[Lib.joinTail]
theorem join_le (B:Nat) (sep:Str) (xs:List Str) (h:∀ x∈xs,x.length≤B):(Lib.join xs sep).length≤xs.length*(B+sep.length):=by
 have ht:∀ r:List Str,(∀ x∈r,x.length≤B)→(Lib.joinTail sep r).length≤r.length*(B+sep.length):=by
  intro r
  induction r with
  |nil=>intro _;simp[Lib.joinTail]
  |cons y r ih =>
   intro hr
   have h1:=ih (fun x hx=>hr x (List.mem_cons_of_mem _ hx))
   have h2:=hr y List.mem_cons_self
   simp only[Lib.joinTail,List.map_cons,List.flatten_cons,List.length_append,List.length_cons] at h1 ⊢
   rw[Nat.succ_mul]
   omega
 cases xs with
 |nil=>simp[Lib.join_nil]
 |cons x r =>
  have h1:=ht r (fun x hx=>h x (List.mem_cons_of_mem _ hx))
  have h2:=h x List.mem_cons_self
  rw[Lib.join_cons,List.length_append,List.length_cons,Nat.succ_mul]
  omega
theorem loop_text {α γ:Type} (v:γ) (l:List α) (g:α→Str) (sep:Str) (B:Nat) (hB:∀ x∈l,(g x).length≤B) (f:γ×Str×Int→Option ((γ×Str×Int) ⊕ Str))
  (h1:∀ (i:Nat) x (a:Str),i<l.length→l[i]?=some x→a.length≤i*(B+sep.length)→f (v,a,(i:Int))=some (.inl (v,(if i=0 then [] else a++sep)++g x,(i:Int)+1)))
  (h2:∀ a:Str,f (v,a,(l.length:Int))=some (.inr a)):loopO f (v,[],0)=some (Lib.join (l.map g) sep):=by
 refine loop_some l.length (fun i s=>s.1=v∧s.2.2=(i:Int)∧s.2.1=Lib.join ((l.take i).map g) sep) (fun i s hi hs=>?_) l.length 0 _ (by omega) ⟨rfl,rfl,by simp[Lib.join_nil]⟩
 obtain⟨v',a,k⟩:=s
 obtain⟨rfl,rfl,ha⟩:=hs
 simp only at ha
 by_cases hn:i<l.length
 ·obtain⟨x,hx⟩:=get_at hn
  have hal:a.length≤i*(B+sep.length):=by
   have:=join_le B sep ((l.take i).map g) (fun y hy=>by obtain⟨z,hz,rfl⟩:=List.mem_map.1 hy;exact hB z (List.mem_of_mem_take hz))
   rw[List.length_map,List.length_take,Nat.min_eq_left hi] at this
   rw[ha];exact this
  refine .inr ⟨hn,_,h1 i x a hn hx hal,rfl,by simp,?_⟩
  rw[List.take_add_one,hx]
  simp only[Option.toList_some,List.map_append,List.map_cons,List.map_nil]
  rw[join_snoc,← ha]
  congr 1
  by_cases h0:i=0
  ·subst h0;simp
  ·rw[if_neg h0,if_neg (by intro hh;have:=congrArg List.length hh;rw[List.length_map,List.length_take,List.length_nil] at this;omega)]
 ·have:i=l.length:=by omega
  subst this
  refine .inl ?_
  rw[h2,ha,List.take_length]
theorem loop_map {α β:Type} (l:List α) (g:α→β) (f:List β×Int→Option ((List β×Int) ⊕ List β))
  (h1:∀ (i:Nat) x (m:List β),i<l.length→l[i]?=some x→m.length=i→f (m,(i:Int))=some (.inl (m++[g x],(i:Int)+1)))
  (h2:∀ m:List β,f (m,(l.length:Int))=some (.inr m)):loopO f ([],0)=some (l.map g):=by
 refine loop_some l.length (fun i s=>s.2=(i:Int)∧s.1=(l.take i).map g) (fun i s hi hs=>?_) l.length 0 _ (by omega) ⟨rfl,by simp⟩
 obtain⟨m,k⟩:=s
 obtain⟨rfl,rfl⟩:=hs
 by_cases hn:i<l.length
 ·obtain⟨x,hx⟩:=get_at hn
  refine .inr ⟨hn,_,h1 i x _ hn hx (by simp;omega),rfl,?_⟩
  rw[List.take_add_one,hx]
  simp
 ·have:i=l.length:=by omega
  subst this
  refine .inl ?_
  rw[h2,List.take_length]
theorem appL_one {β:Type} (bs:Nat) (l:List β) (x:β) (h:(l.length+1)*(bs+1)≤maxRow):appL bs l (lit [x])=some (l++[x]):=by
 unfold appL lit;rw[if_pos (by simpa using h)]
theorem itoa_le (n:Int) (h0:-9223372036854775808≤n) (h1:n≤9223372036854775807):(Lib.itoa n).length≤21:=Lib.itoa_length_le n h0 h1
end Go.Proofs.TM
