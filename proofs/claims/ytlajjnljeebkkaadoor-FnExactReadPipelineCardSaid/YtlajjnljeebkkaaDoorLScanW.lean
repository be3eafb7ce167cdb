import Derived.Test.YtlajjnljeebkkaaDoorLScanI
namespace Go.Proofs.TM
open Go Go.Proofs
set_option maxHeartbeats 1000000
def wc (b:UInt8):Prop:=(65≤b.toNat∧b.toNat≤90)∨(97≤b.toNat∧b.toNat≤122)∨isD b∨b.toNat=95
instance (b:UInt8):Decidable (wc b):=by unfold wc;infer_instance
theorem isDig_out (b:UInt8):impl_isDigit (b.toNat:Int)=some (decide (isD b)):=by
 unfold impl_isDigit isD
 by_cases h:(b.toNat:Int)≥48
 ·rw[if_pos h];exact dI (by omega)
 ·rw[if_neg h];exact dF (by omega)
theorem wc_out (b:UInt8):impl_scanner_word_c1 (b.toNat:Int)=some (decide (wc b)):=by
 have hd:∀ q:Prop,[Decidable q]→(q↔wc b)→((impl_isDigit (b.toNat:Int)).bind fun r=>if r=true then some true else some (decide ((b.toNat:Int)=95)))=some (decide q)∨¬(q↔isD b∨b.toNat=95):=by
  intro q _ hq
  by_cases hh:q↔isD b∨b.toNat=95
  ·left
   rw[isDig_out,obs]
   by_cases h1:isD b
   ·rw[decide_eq_true h1,if_pos rfl,decide_eq_true (hh.2 (.inl h1))]
   ·rw[decide_eq_false h1,if_neg (by simp)]
    exact dI ⟨fun e=>hh.2 (.inr (by omega)),fun e=>by rcases hh.1 e with a |a;exact absurd a h1;omega⟩
  ·exact .inr hh
 have tail:¬(65≤b.toNat∧b.toNat≤90)→¬(97≤b.toNat∧b.toNat≤122)→((impl_isDigit (b.toNat:Int)).bind fun r=>if r=true then some true else some (decide ((b.toNat:Int)=95)))=some (decide (wc b)):=fun a c=>by
  rcases hd (wc b) Iff.rfl with h |h
  ·exact h
  ·exact absurd (by unfold wc;simp[a,c]) h
 unfold impl_scanner_word_c1
 by_cases h1:(b.toNat:Int)≥65
 ·rw[if_pos h1]
  by_cases h2:(b.toNat:Int)≤90
  ·rw[if_pos h2];exact dT (.inl ⟨by omega,by omega⟩)
  ·rw[if_neg h2]
   by_cases h3:(b.toNat:Int)≥97
   ·rw[if_pos h3]
    by_cases h4:(b.toNat:Int)≤122
    ·rw[if_pos h4];exact dT (.inr (.inl ⟨by omega,by omega⟩))
    ·rw[if_neg h4];exact tail (by omega) (by omega)
   ·rw[if_neg h3];exact tail (by omega) (by omega)
 ·rw[if_neg h1,if_neg (by omega)];exact tail (by omega) (by omega)
def spnP (p:UInt8→Prop) [DecidablePred p]:Str→Str×Str
 |[]=>([],[])
 |x::r=>if p x then (x::(spnP p r).1,(spnP p r).2) else ([],x::r)
theorem spnP_eq (p:UInt8→Prop) [DecidablePred p] (r:Str):(spnP p r).1++(spnP p r).2=r∧(∀ b∈(spnP p r).1,p b)∧∀ x t,(spnP p r).2=x::t→¬p x:=by
 induction r with
 |nil=>exact⟨rfl,by simp[spnP],by simp[spnP]⟩
 |cons x r ih =>
  obtain⟨h1,h2,h3⟩:=ih
  unfold spnP
  by_cases hx:p x
  ·rw[if_pos hx]
   exact⟨by simp[h1],fun b hb=>by rcases List.mem_cons.1 hb with rfl |hb;exact hx;exact h2 b hb,h3⟩
  ·rw[if_neg hx]
   exact⟨rfl,by simp,fun y t e=>by cases e;exact hx⟩
theorem spnP_of (p:UInt8→Prop) [DecidablePred p] (a t:Str) (ha:∀ b∈a,p b) (ht:∀ x r,t=x::r→¬p x):spnP p (a++t)=(a,t):=by
 induction a with
 |nil =>
  cases t with
  |nil=>rfl
  |cons x r=>rw[List.nil_append,spnP,if_neg (ht x r rfl)]
 |cons x a ih =>
  rw[List.cons_append,spnP,if_pos (ha x List.mem_cons_self),ih (fun b hb=>ha b (List.mem_cons_of_mem _ hb))]
theorem while_loop {γ:Type} (p:UInt8→Prop) [DecidablePred p] (s:Str) (v:γ) (f:Int→Option (Int ⊕ (γ×Int))) (h1:∀ (i:Nat) x,i<s.length→s[i]?=some x→p x→f (i:Int)=some (.inl ((i:Int)+1)))
  (h2:∀ (i:Nat) x,i<s.length→s[i]?=some x→¬p x→f (i:Int)=some (.inr (v,(i:Int)))) (h3:f (s.length:Int)=some (.inr (v,(s.length:Int)))):loopO f 0=some (v,((spnP p s).1.length:Int)):=by
 obtain⟨e1,e2,e3⟩:=spnP_eq p s
 have hl:(spnP p s).1.length+(spnP p s).2.length=s.length:=by have:=congrArg List.length e1;rwa [List.length_append] at this
 refine loop_some (spnP p s).1.length (fun i k=>k=(i:Int)) (fun i k hi hk=>?_) (spnP p s).1.length 0 0 (by omega) rfl
 subst hk
 by_cases hn:i<(spnP p s).1.length
 ·obtain⟨x,hx⟩:=get_at hn
  have hx':s[i]?=some x:=by rw[← e1,List.getElem?_append_left hn,hx]
  exact .inr ⟨hn,_,h1 i x (by omega) hx' (e2 x (List.mem_of_getElem? hx)),by omega⟩
 ·have hi:i=(spnP p s).1.length:=by omega
  refine .inl ?_
  by_cases hns:i<s.length
  ·obtain⟨x,hx⟩:=get_at hns
   have hq:(spnP p s).2[0]?=some x:=by
    have e:((spnP p s).1++(spnP p s).2)[i]?=s[i]?:=by rw[e1]
    rw[List.getElem?_append_right (by omega),show i-(spnP p s).1.length=0 by omega,hx] at e
    exact e
   have hnx:¬p x:=by
    cases e:(spnP p s).2 with
    |nil=>rw[e] at hq;cases hq
    |cons y t=>rw[e] at hq;cases hq;exact e3 _ _ e
   rw[h2 i x hns hx hnx,hi]
  ·have:i=s.length:=by omega
   rw[this,h3,← this,hi]
theorem word_out (s:Str) (b:Bool) (h:s.length≤1048576):impl_scanner_word_od0 (s,b)=some (((spnP wc s).2,b),(spnP wc s).1):=by
 obtain⟨e1,e2,e3⟩:=spnP_eq wc s
 have hl:(spnP wc s).1.length+(spnP wc s).2.length=s.length:=by have:=congrArg List.length e1;rwa [List.length_append] at this
 unfold impl_scanner_word_od0 impl_scanner_while_o1f impl_scanner_while_o1f_l1
 rw[while_loop wc s (s,b) (fun k=>impl_scanner_while_o1f_l1_b (s,b) k) (fun i x hi hx hp=>?_) (fun i x hi hx hp=>?_) (by simp[impl_scanner_while_o1f_l1_b]),obs,subL_to s _ (by omega),obs,subL_from s _ (by omega),obs,obs,take_of e1,drop_of e1]
 ·unfold impl_scanner_while_o1f_l1_b
  rw[if_pos (by simp only;omega),if_pos (by omega),Int.toNat_natCast,hx,obs,wc_out,obs,if_pos (by simpa using hp),w1 (by omega)]
 ·unfold impl_scanner_while_o1f_l1_b
  rw[if_pos (by simp only;omega),if_pos (by omega),Int.toNat_natCast,hx,obs,wc_out,obs,if_neg (by simpa using hp)]
end Go.Proofs.TM
