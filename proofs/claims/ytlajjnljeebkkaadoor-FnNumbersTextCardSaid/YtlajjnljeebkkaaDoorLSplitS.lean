import Derived.Test.YtlajjnljeebkkaaDoorLTxt
import Derived.Test.YtlajjnljeebkkaaDoorTSpl
namespace Go.Proofs.TM
open Go Go.Proofs
set_option maxHeartbeats 1000000
theorem spl_join (c:UInt8) (xs:List Str) (hne:xs≠[]) (h:∀ x∈xs,∀ b∈x,b≠c):spl c (Lib.join xs [c])=xs:=by
 induction xs with
 |nil=>exact absurd rfl hne
 |cons x r ih =>
  cases r with
  |nil=>rw[Lib.join_one,spl_miss c x (h x List.mem_cons_self)]
  |cons y t =>
   have e:Lib.join (x::y::t) [c]=x++c::Lib.join (y::t) [c]:=by
    rw[Lib.join_cons,Lib.join_cons];simp[Lib.joinTail]
   rw[e,spl_hit c _ _ (h x List.mem_cons_self),ih (by simp) (fun z hz=>h z (List.mem_cons_of_mem _ hz))]
theorem spl_len (c:UInt8) (s:Str):(spl c s).length≤s.length+1∧∀ x∈spl c s,x.length≤s.length:=by
 induction s with
 |nil=>simp[spl]
 |cons x r ih =>
  obtain⟨h1,h2⟩:=ih
  unfold spl
  split
  ·simp only[List.length_cons]
   exact⟨by omega,fun y hy=>by
    rcases List.mem_cons.1 hy with rfl |hy
    ·simp
    ·have:=h2 y hy;omega⟩
  ·obtain⟨h,t,e⟩:=spl_ne c r
   rw[e] at h1 h2 ⊢
   simp only[List.length_cons] at h1 ⊢
   exact⟨by omega,fun y hy=>by
    rcases List.mem_cons.1 hy with rfl |hy
    ·have:=h2 h List.mem_cons_self;simp only[List.length_cons];omega
    ·have:=h2 y (List.mem_cons_of_mem _ hy);omega⟩
def isD (b:UInt8):Prop:=48≤b.toNat∧b.toNat≤57
instance (b:UInt8):Decidable (isD b):=by unfold isD;infer_instance
def numF (l:Str):Nat:=l.foldl (fun a b=>10*a+(b.toNat-48)) 0
theorem numF_snoc (l:Str) (b:UInt8):numF (l++[b])=10*numF l+(b.toNat-48):=by unfold numF;rw[List.foldl_append];rfl
theorem dec_dig (u:Nat):(∀ b∈Lib.decDigits u,isD b)∧numF (Lib.decDigits u)=u:=by
 induction u using Nat.strongRecOn with
 |_ u ih =>
  have hd:∀ k,k<10→(UInt8.ofNat (48+k)).toNat=48+k:=fun k hk=>by rw[UInt8.toNat_ofNat'];omega
  by_cases h:u<10
  ·rw[Lib.decDigits_one h]
   have:=hd u h
   refine⟨fun b hb=>?_,?_⟩
   ·simp only[List.mem_singleton] at hb;subst hb;unfold isD;omega
   ·show 10*0+((UInt8.ofNat (48+u)).toNat-48)=u;omega
  ·obtain⟨h1,h2⟩:=ih (u / 10) (by omega)
   have h3:=hd (u % 10) (by omega)
   rw[show Lib.decDigits u=Lib.decDigits (u / 10)++[UInt8.ofNat (48+u % 10)] by rw[Lib.decDigits,dif_neg h]]
   refine⟨fun b hb=>?_,?_⟩
   ·rcases List.mem_append.1 hb with hb |hb
    ·exact h1 b hb
    ·simp only[List.mem_singleton] at hb;subst hb;unfold isD;omega
   ·rw[numF_snoc,h2,h3];omega
end Go.Proofs.TM
