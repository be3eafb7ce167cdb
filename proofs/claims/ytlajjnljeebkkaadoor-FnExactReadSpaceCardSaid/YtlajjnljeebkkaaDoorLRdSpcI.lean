import Derived.Test.YtlajjnljeebkkaaDoorLScanI
import Derived.Test.YtlajjnljeebkkaaDoorLSpc
namespace Go.Proofs.TM
open Go Go.Proofs
set_option maxHeartbeats 1000000
theorem spP2_out (v:DScan) (D M:List Int) (d m:Int) (h:D.length≤1048577) (h':M.length≤1048577):impl_scanner_space_od0_p2 v (D,M) d m=some (v,(D++[d],M++[m])):=by
 unfold impl_scanner_space_od0_p2
 rw[appL_one 8 _ _ (by unfold maxRow;simp only;omega),obs,appL_one 8 _ _ (by unfold maxRow;simp only;omega),obs]
theorem spP3_any (s:Str) (b:Bool) (D M:List Int) (hs:s.length≤1048576) (h:D.length≤1048577) (h':M.length≤1048577):∃ s' b' d m,impl_scanner_space_od0_p3 (s,b) (D,M)=some ((s',b'),(D++[d],M++[m]))∧s'.length≤s.length∧(b'=true∨s'.length<s.length)∧(b=true→b'=true):=by
 unfold impl_scanner_space_od0_p3
 obtain⟨s1,b1,n,e1,l1,_,w1,k1⟩:=number_out s b hs
 rw[e1,obs]
 obtain⟨s2,k,e2,l2⟩:=accept_any s1 [47,42] b1 (by omega)
 simp only
 rw[e2,obs]
 cases k with
 |true=>exact⟨s2,b1,n,-1,by rw[if_pos rfl,spP2_out _ _ _ _ _ h h'];rfl,by omega,by rcases w1 with w |w;exact .inl w;exact .inr (by omega),k1⟩
 |false =>
  obtain⟨s3,k,e3,l3⟩:=accept_any s2 [47] b1 (by omega)
  simp only[Bool.false_eq_true,if_false]
  rw[e3,obs]
  cases k with
  |true =>
   obtain⟨s4,b4,n4,e4,l4,_,w4,k4⟩:=number_out s3 b1 (by omega)
   refine⟨s4,b4,n,n4,by simp only[if_true];rw[e4,obs,spP2_out _ _ _ _ _ h h'];rfl,by omega,?_,fun hb=>k4 (k1 hb)⟩
   rcases w4 with w |w
   ·exact .inl w
   ·exact .inr (by omega)
  |false =>
   refine⟨s3,b1,n,n,by simp only[Bool.false_eq_true,if_false];rw[spP2_out _ _ _ _ _ h h'];rfl,by omega,?_,k1⟩
   rcases w1 with w |w
   ·exact .inl w
   ·exact .inr (by omega)
def Aft (t:Str):Prop:=∃ r,t=44::r∨t=41::r
theorem Aft.nc {t:Str} (h:Aft t):∀ x r,t=x::r→¬nc x:=by
 obtain⟨q,h⟩:=h
 intro x r e
 rcases h with h |h <;> (rw[h] at e;cases e;unfold TM.nc isD;decide)
theorem spP3_text (p:Int×Int) (t:Str) (b:Bool) (D M:List Int) (hp:OkP p) (ht:Aft t) (hs:(tE p++t).length≤1048576) (h:D.length≤1048577) (h':M.length≤1048577):impl_scanner_space_od0_p3 (tE p++t,b) (D,M)=some ((t,b),(D++[p.1],M++[p.2])):=by
 obtain⟨a1,a2,a3,a4⟩:=hp.b
 have h47:¬nc 47:=by unfold nc isD;decide
 unfold impl_scanner_space_od0_p3
 unfold tE at hs ⊢
 by_cases he:p.2=p.1
 ·rw[if_pos he] at hs ⊢
  rw[List.append_nil] at hs ⊢
  rw[number_itoa p.1 t b a1 (by omega) ht.nc hs,obs]
  have hl:t.length≤1048576:=by rw[List.length_append] at hs;omega
  obtain⟨r,hr⟩:=ht
  rw[accept_miss t [47,42] b hl (by rcases hr with rfl |rfl <;> (cases r <;> simp)),obs,if_neg (by simp),accept_miss t [47] b hl (by rcases hr with rfl |rfl <;> simp),obs,if_neg (by simp),spP2_out _ _ _ _ _ h h',he]
  rfl
 ·rw[if_neg he] at hs ⊢
  by_cases hm:p.2=-1
  ·rw[if_pos hm] at hs ⊢
   rw[List.append_assoc] at hs ⊢
   rw[number_itoa p.1 ([47,42]++t) b a1 (by omega) (by intro x r e;cases e;exact h47) hs,obs]
   have hl:([47,42]++t).length≤1048576:=by rw[List.length_append] at hs;omega
   rw[accept_hit [47,42] t b hl,obs,if_pos rfl,spP2_out _ _ _ _ _ h h',hm]
   rfl
  ·rw[if_neg hm] at hs ⊢
   rw[List.append_assoc,List.cons_append] at hs ⊢
   rw[number_itoa p.1 (47::(Lib.itoa p.2++t)) b a1 (by omega) (by intro x r e;cases e;exact h47) hs,obs]
   have hl:(47::(Lib.itoa p.2++t)).length≤1048576:=by rw[List.length_append] at hs;omega
   have hd:=itoa_dig (n:=p.2) (by omega)
   obtain⟨x,r,ex⟩:=List.exists_cons_of_ne_nil (itoa_ne p.2)
   have hx:x≠42:=fun hh=>by
    have:=hd x (by rw[ex];exact List.mem_cons_self)
    subst hh;exact absurd this (by unfold isD;decide)
   rw[accept_miss _ [47,42] b hl (by rw[ex];simp[hx]),obs,if_neg (by simp)]
   have hl2:(Lib.itoa p.2++t).length≤1048576:=by simp only[List.length_cons] at hl;omega
   have ha:impl_scanner_accept_o0b (47::(Lib.itoa p.2++t),b) [47]=some ((Lib.itoa p.2++t,b),true):=accept_hit [47] _ b hl
   simp only
   rw[ha,obs,if_pos rfl]
   simp only
   rw[number_itoa p.2 t b (by omega) (by omega) ht.nc hl2,obs,spP2_out _ _ _ _ _ h h']
   rfl
theorem spaceI_any (s:Str) (hs:s.length≤1048576):∃ r,impl_scanner_space_od0 (s,false)=some r:=by
 unfold impl_scanner_space_od0 impl_scanner_space_od0_l1
 obtain⟨s1,b1,e1,l1,_⟩:=expect_any s [40] false hs
 rw[e1,obs]
 have key:=loop_ex (f:=fun t:DScan×DSpc=>impl_scanner_space_od0_l1_b t.1 t.2) (fun _=>True) (s.length+1) (fun i t=>(t.1.2=true∨t.1.1.length+i≤s.length)∧t.1.1.length≤s.length∧t.2.1.length=i∧t.2.2.length=i) (fun i t hi ht=>?_) (s.length+1) 0 ((s1,b1),([],[])) (by omega) ⟨.inr (by simpa using l1),l1,rfl,rfl⟩
 ·obtain⟨r,hr,_⟩:=key
  rw[hr];exact⟨_,rfl⟩
 ·obtain⟨⟨r,b⟩,D,M⟩:=t
  obtain⟨h1,h2,h3,h4⟩:=ht
  simp only at h1 h2 h3 h4
  unfold impl_scanner_space_od0_l1_b
  cases b with
  |true=>exact .inl ⟨_,by simp;rfl,trivial⟩
  |false =>
   have h1:r.length+i≤s.length:=by rcases h1 with h |h;cases h;exact h
   simp only
   rw[if_pos (by simp)]
   obtain⟨r1,k,e2,l2⟩:=accept_any r [41] false (by omega)
   rw[e2,obs]
   cases k with
   |true=>exact .inl ⟨_,by simp;rfl,trivial⟩
   |false =>
    simp only[Bool.false_eq_true,not_false_eq_true,if_true]
    refine .inr ⟨by omega,?_⟩
    by_cases hD:((D.length:Nat):Int)>0
    ·rw[if_pos hD]
     obtain⟨r2,b2,e3,l3,_⟩:=expect_any r1 [44] false (by omega)
     rw[e3,obs]
     obtain⟨r3,b3,d,m,e4,l4,w4,_⟩:=spP3_any r2 b2 D M (by omega) (by omega) (by omega)
     rw[e4]
     refine⟨_,rfl,?_,by simp only;omega,by simp[h3],by simp[h4]⟩
     rcases w4 with w |w
     ·exact .inl w
     ·exact .inr (by simp only;omega)
    ·rw[if_neg hD]
     obtain⟨r3,b3,d,m,e4,l4,w4,_⟩:=spP3_any r1 false D M (by omega) (by omega) (by omega)
     rw[e4]
     refine⟨_,rfl,?_,by simp only;omega,by simp[h3],by simp[h4]⟩
     rcases w4 with w |w
     ·exact .inl w
     ·exact .inr (by simp only;omega)
def rst (L:List (Int×Int)) (i:Nat):Str:=(if i=0 then Lib.join (L.map tE) [44] else Lib.joinTail [44] ((L.drop i).map tE))++[41]
theorem rst_at {L:List (Int×Int)} {i:Nat} {p:Int×Int} (h:L[i]?=some p):rst L i=(if i=0 then [] else [44])++(tE p++rst L (i+1)):=by
 have hi:=(List.getElem?_eq_some_iff.1 h).1
 have hd:L.drop i=p::L.drop (i+1):=by
  rw[List.drop_eq_getElem_cons hi,(List.getElem?_eq_some_iff.1 h).2]
 unfold rst
 rw[if_neg (show ¬i+1=0 by omega)]
 by_cases h0:i=0
 ·subst h0
  rw[if_pos rfl,if_pos rfl]
  rw[List.drop_zero] at hd
  conv=>lhs;rw[hd]
  rw[List.map_cons,Lib.join_cons];simp
 ·rw[if_neg h0,if_neg h0,hd,List.map_cons];simp[Lib.joinTail]
theorem rst_aft (L:List (Int×Int)) (i:Nat):Aft (rst L (i+1)):=by
 unfold rst
 rw[if_neg (by omega)]
 cases h:L.drop (i+1) with
 |nil=>exact⟨[],.inr (by simp[Lib.joinTail])⟩
 |cons p t=>exact⟨_,.inl (by simp only[List.map_cons,Lib.joinTail,List.flatten_cons,List.cons_append,List.nil_append];rfl)⟩
theorem rst_end (L:List (Int×Int)) (i:Nat) (h:L.length≤i):rst L i=[41]:=by
 unfold rst
 by_cases h0:i=0
 ·subst h0;rw[List.eq_nil_of_length_eq_zero (show L.length=0 by omega),if_pos rfl];rfl
 ·rw[if_neg h0,List.drop_of_length_le h];rfl
theorem spaceI_text (s:DSpc) (h:VS s):impl_scanner_space_od0 (tS s,false)=some (([],false),s):=by
 obtain⟨D0,M0⟩:=s
 obtain⟨z1,z2,z3⟩:=h.zip
 have hlen:=tS_le h
 have hl2:=h.2.1
 simp only at z1 z2 z3 hlen hl2
 have hr0:tS (D0,M0)=[40]++rst (D0.zip M0) 0:=by unfold tS rst;rw[if_pos rfl];rfl
 have hrl:∀ i,i≤(D0.zip M0).length→(rst (D0.zip M0) i).length≤133:=by
  intro i
  induction i with
  |zero=>intro _;unfold rst;rw[if_pos rfl,List.length_append,List.length_singleton];omega
  |succ i ih =>
   intro hi
   obtain⟨p,hp⟩:=get_at (l:=D0.zip M0) (i:=i) (by omega)
   have:=ih (by omega)
   rw[rst_at hp,List.length_append,List.length_append] at this
   omega
 unfold impl_scanner_space_od0 impl_scanner_space_od0_l1
 rw[hr0,expect_hit [40] _ false (by have:=hrl 0 (by omega);simp only[List.length_append,List.length_cons,List.length_nil];omega),obs]
 rw[loop_some (r:=(([],false),(D0,M0))) (D0.zip M0).length (fun i t=>t=((rst (D0.zip M0) i,false),(D0.take i,M0.take i))) (fun i t hi ht=>?_) (D0.zip M0).length 0 _ (by omega) (by simp),obs]
 subst ht
 unfold impl_scanner_space_od0_l1_b
 simp only
 rw[if_pos (by simp)]
 have hrs:=hrl i hi
 by_cases hn:i<(D0.zip M0).length
 ·obtain⟨p,hp⟩:=get_at hn
  obtain⟨x1,x2⟩:=zip_get (s:=(D0,M0)) hp
  simp only at x1 x2
  have hok:=z3 p (List.mem_of_getElem? hp)
  have ea:=rst_at hp
  have hs1:D0.take (i+1)=D0.take i++[p.1]:=by rw[List.take_add_one,x1];rfl
  have hs2:M0.take (i+1)=M0.take i++[p.2]:=by rw[List.take_add_one,x2];rfl
  have hb1:(D0.take i).length≤1048577:=by rw[List.length_take];omega
  have hb2:(M0.take i).length≤1048577:=by rw[List.length_take];omega
  have hdl:(D0.take i).length=i:=by rw[List.length_take];omega
  have hp3:=spP3_text p (rst (D0.zip M0) (i+1)) false (D0.take i) (M0.take i) hok (rst_aft _ _) (by rw[ea,List.length_append] at hrs;omega) hb1 hb2
  refine .inr ⟨hn,((rst (D0.zip M0) (i+1),false),(D0.take (i+1),M0.take (i+1))),?_,rfl⟩
  have hmiss:(rst (D0.zip M0) i).take ([41]:Str).length≠[41]:=by
   rw[ea]
   by_cases h0:i=0
   ·rw[if_pos h0]
    obtain⟨x,r,ex⟩:=List.exists_cons_of_ne_nil (itoa_ne p.1)
    have:=itoa_dig (n:=p.1) (by have:=hok.b;omega) x (by rw[ex];exact List.mem_cons_self)
    have hx:x≠41:=fun hh=>by subst hh;exact absurd this (by unfold isD;decide)
    unfold tE;rw[ex];simp[hx]
   ·rw[if_neg h0];simp
  rw[accept_miss _ [41] false (by omega) hmiss,obs,if_pos (by simp),hdl]
  by_cases h0:i=0
  ·rw[if_neg (by omega)]
   rw[if_pos h0,List.nil_append] at ea
   simp only
   rw[ea,hp3,hs1,hs2];rfl
  ·rw[if_pos (by omega)]
   rw[if_neg h0] at ea
   simp only
   rw[ea,expect_hit [44] _ false (by rw[← ea];omega),obs,hp3,hs1,hs2];rfl
 ·refine .inl ?_
  rw[rst_end _ _ (by omega)]
  have:=accept_hit [41] [] false (by simp)
  rw[List.append_nil] at this
  rw[this,obs,if_neg (by simp),List.take_of_length_le (by omega),List.take_of_length_le (by omega)]
theorem readI_out (s:Str) (hs:s.length≤1048576):(∃ x,VS x∧tS x=s∧impl_ReadSpace s=some (x,true))∨((¬∃ x,VS x∧tS x=s)∧impl_ReadSpace s=some (([],[]),false)):=by
 obtain⟨⟨⟨s',b⟩,x⟩,e⟩:=spaceI_any s hs
 unfold impl_ReadSpace
 rw[e,obs]
 have back:(∃ y,VS y∧tS y=s)→b=false∧VS x∧tS x=s:=by
  rintro⟨y,hy,rfl⟩
  rw[spaceI_text y hy] at e
  cases e
  exact⟨rfl,hy,rfl⟩
 cases b with
 |true=>exact .inr ⟨fun h=>(by cases (back h).1),by simp⟩
 |false =>
  simp only[Bool.false_eq_true,if_false]
  obtain⟨c,hc,hv⟩:=iSpace_out x
  rw[hc,obs]
  cases c with
  |false=>exact .inr ⟨fun h=>(by have:=hv.2 (back h).2.1;cases this),by simp⟩
  |true =>
   have hx:=hv.1 rfl
   rw[if_neg (by simp),iText_out x hx,obs]
   by_cases ht:tS x=s
   ·exact .inl ⟨x,hx,ht,by rw[if_neg (by simpa using ht)]⟩
   ·exact .inr ⟨fun h=>ht (back h).2.2,by rw[if_pos ht]⟩
end Go.Proofs.TM
