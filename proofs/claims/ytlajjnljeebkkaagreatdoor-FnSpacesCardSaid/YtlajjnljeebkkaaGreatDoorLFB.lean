import Derived.Test.YtlajjnljeebkkaaGreatDoorLFA
namespace Go.Proofs.TM
open Go Go.Proofs
set_option maxHeartbeats 1000000
abbrev DSpc:=List Int×List Int
def VS (s:DSpc):Prop:=VD s.1∧s.2.length=s.1.length∧∀ (i:Nat) m d,s.2[i]?=some m→s.1[i]?=some d→m=-1∨(d≤m∧m≤40)
theorem sSpace_out (s:DSpc):∃ b,spec_l05Space s=some b∧(b=true↔VS s):=by
 unfold spec_l05Space
 obtain⟨b,hb,hv⟩:=sDims_out s.1
 rw[hb,obs]
 cases b with
 |false=>exact⟨false,by simp,by simp only[Bool.false_eq_true,false_iff] at hv ⊢;exact fun h=>hv h.1⟩
 |true =>
  have hd:=hv.1 rfl
  have hd3:=hd.1
  rw[if_neg (not_not_intro rfl)]
  by_cases hl:¬((s.2.length:Int)=(s.1.length:Int))
  ·rw[if_pos hl];exact⟨false,rfl,by simp only[Bool.false_eq_true,false_iff];exact fun h=>hl (by rw[h.2.1])⟩
  rw[if_neg hl]
  have hl:s.2.length=s.1.length:=by omega
  unfold spec_l05Space_l1
  have key:=loop_ex (f:=fun k:Int=>spec_l05Space_l1_b s k) (fun r=>(r=.inl ()∧VS s)∨(r=.inr false∧¬VS s)) s.2.length (fun i k=>k=(i:Int)∧∀ j,j<i→∀ m d,s.2[j]?=some m→s.1[j]?=some d→m=-1∨(d≤m∧m≤40)) (fun i k hi hk=>?_) s.2.length 0 0 (by omega) ⟨rfl,fun j hj=>by omega⟩
  ·obtain⟨r,hr,hP⟩:=key
   rw[hr,obs]
   rcases hP with ⟨rfl,ha⟩ |⟨rfl,ha⟩
   ·exact⟨true,rfl,by simpa using ha⟩
   ·exact⟨false,rfl,by simpa using ha⟩
  ·obtain⟨rfl,hall⟩:=hk
   unfold spec_l05Space_l1_b
   by_cases hn:i<s.2.length
   ·obtain⟨m,hm⟩:=get_at hn
    obtain⟨d,hd'⟩:=get_at (l:=s.1) (i:=i) (by omega)
    have ext:(m=-1∨(d≤m∧m≤40))→∀ j,j<i+1→∀ m d,s.2[j]?=some m→s.1[j]?=some d→m=-1∨(d≤m∧m≤40):=fun h j hj m' d' h1 h2=>by
     by_cases hji:j=i
     ·subst hji;rw[hm] at h1;rw[hd'] at h2;cases h1;cases h2;exact h
     ·exact hall j (by omega) m' d' h1 h2
    rw[if_pos (by omega),if_pos (by omega),Int.toNat_natCast,hm,obs,w1 (by omega)]
    by_cases hm1:¬m=-1
    ·rw[if_pos hm1,if_pos (by omega),obs,if_pos (by omega),hd',obs,l00In_out,obs]
     by_cases hp:d≤m∧m≤40
     ·rw[if_neg (by simpa using hp)];exact .inr ⟨hn,_,rfl,by omega,ext (.inr hp)⟩
     ·rw[if_pos (by rw[decide_eq_false hp];simp)]
      exact .inl ⟨_,rfl,.inr ⟨rfl,fun h=>by rcases h.2.2 i m d hm hd' with h |h;exact hm1 h;exact hp h⟩⟩
    ·rw[if_neg hm1];exact .inr ⟨hn,_,rfl,by omega,ext (.inl (Decidable.not_not.1 hm1))⟩
   ·have:i=s.2.length:=by omega
    rw[if_neg (by omega)]
    exact .inl ⟨_,rfl,.inl ⟨rfl,hd,hl,fun j m d h1 h2=>hall j (by rw[this];exact (List.getElem?_eq_some_iff.1 h1).1) m d h1 h2⟩⟩
theorem iSpace_out (s:DSpc):∃ b,impl_ValidSpace s=some b∧(b=true↔VS s):=by
 unfold impl_ValidSpace
 obtain⟨b,hb,hv⟩:=iDims_out s.1
 rw[hb,obs]
 cases b with
 |false=>exact⟨false,by simp,by simp only[Bool.false_eq_true,false_iff] at hv ⊢;exact fun h=>hv h.1⟩
 |true =>
  have hd:=hv.1 rfl
  have hd3:=hd.1
  rw[if_neg (not_not_intro rfl)]
  by_cases hl:¬((s.2.length:Int)=(s.1.length:Int))
  ·rw[if_pos hl];exact⟨false,rfl,by simp only[Bool.false_eq_true,false_iff];exact fun h=>hl (by rw[h.2.1])⟩
  rw[if_neg hl]
  have hl:s.2.length=s.1.length:=by omega
  unfold impl_ValidSpace_l1
  have key:=loop_ex (f:=fun k:Int=>impl_ValidSpace_l1_b s s.2 (s.2.length:Int) k) (fun r=>(r=.inl ()∧VS s)∨(r=.inr false∧¬VS s)) s.2.length (fun i k=>k=(i:Int)∧∀ j,j<i→∀ m d,s.2[j]?=some m→s.1[j]?=some d→m=-1∨(d≤m∧m≤40)) (fun i k hi hk=>?_) s.2.length 0 0 (by omega) ⟨rfl,fun j hj=>by omega⟩
  ·obtain⟨r,hr,hP⟩:=key
   rw[hr,obs]
   rcases hP with ⟨rfl,ha⟩ |⟨rfl,ha⟩
   ·exact⟨true,rfl,by simpa using ha⟩
   ·exact⟨false,rfl,by simpa using ha⟩
  ·obtain⟨rfl,hall⟩:=hk
   unfold impl_ValidSpace_l1_b
   by_cases hn:i<s.2.length
   ·obtain⟨m,hm⟩:=get_at hn
    obtain⟨d,hd'⟩:=get_at (l:=s.1) (i:=i) (by omega)
    have ext:(m=-1∨(d≤m∧m≤40))→∀ j,j<i+1→∀ m d,s.2[j]?=some m→s.1[j]?=some d→m=-1∨(d≤m∧m≤40):=fun h j hj m' d' h1 h2=>by
     by_cases hji:j=i
     ·subst hji;rw[hm] at h1;rw[hd'] at h2;cases h1;cases h2;exact h
     ·exact hall j (by omega) m' d' h1 h2
    rw[if_pos (by omega),if_pos (by omega),Int.toNat_natCast,hm,obs,w1 (by omega)]
    by_cases hm1:¬m=-1
    ·rw[if_pos hm1,if_pos (by omega),hd',obs,within_out,obs]
     by_cases hp:d≤m∧m≤40
     ·rw[if_neg (by simpa using hp)];exact .inr ⟨hn,_,rfl,by omega,ext (.inr hp)⟩
     ·rw[if_pos (by rw[decide_eq_false hp];simp)]
      exact .inl ⟨_,rfl,.inr ⟨rfl,fun h=>by rcases h.2.2 i m d hm hd' with h |h;exact hm1 h;exact hp h⟩⟩
    ·rw[if_neg hm1];exact .inr ⟨hn,_,rfl,by omega,ext (.inl (Decidable.not_not.1 hm1))⟩
   ·have:i=s.2.length:=by omega
    rw[if_neg (by omega)]
    exact .inl ⟨_,rfl,.inl ⟨rfl,hd,hl,fun j m d h1 h2=>hall j (by rw[this];exact (List.getElem?_eq_some_iff.1 h1).1) m d h1 h2⟩⟩
def tE (p:Int×Int):Str:=Lib.itoa p.1++(if p.2=p.1 then [] else if p.2=-1 then [47,42] else 47::Lib.itoa p.2)
def tS (s:DSpc):Str:=40::Lib.join ((s.1.zip s.2).map tE) [44]++[41]
def OkP (p:Int×Int):Prop:=(0≤p.1∧p.1≤40)∧(p.2=-1∨(p.1≤p.2∧p.2≤40))
theorem OkP.b {p:Int×Int} (h:OkP p):0≤p.1∧p.1≤40∧-1≤p.2∧p.2≤40:=by
 obtain⟨h1,h2⟩:=h;omega
theorem VS.zip {s:DSpc} (h:VS s):(s.1.zip s.2).length=s.1.length∧s.1.length≤3∧∀ p∈s.1.zip s.2,OkP p:=by
 refine⟨by rw[List.length_zip,h.2.1,Nat.min_self],h.1.1,fun p hp=>?_⟩
 obtain⟨i,hi,rfl⟩:=List.mem_iff_getElem.1 hp
 rw[List.length_zip] at hi
 rw[List.getElem_zip]
 exact⟨h.1.2.1 _ (List.getElem_mem (by omega)),h.2.2 i _ _ (List.getElem?_eq_getElem (by omega)) (List.getElem?_eq_getElem (by omega))⟩
theorem tE_le {p:Int×Int} (h:OkP p):(tE p).length≤43:=by
 have h1:=itoa_le p.1 (by have:=h.b;omega) (by have:=h.b;omega)
 have h2:=itoa_le p.2 (by have:=h.b;omega) (by have:=h.b;omega)
 unfold tE
 rw[List.length_append]
 split
 ·simp only[List.length_nil];omega
 ·split
  ·simp only[List.length_cons,List.length_nil];omega
  ·simp only[List.length_cons];omega
theorem tS_le {s:DSpc} (h:VS s):(Lib.join ((s.1.zip s.2).map tE) [44]).length≤132:=by
 have:=join_le 43 [44] ((s.1.zip s.2).map tE) (fun x hx=>by obtain⟨p,hp,rfl⟩:=List.mem_map.1 hx;exact tE_le (h.zip.2.2 p hp))
 rw[List.length_map,h.zip.1] at this
 have h3:=h.zip.2.1
 simp only[List.length_cons,List.length_nil] at this
 omega
theorem zip_get {s:DSpc} {i:Nat} {p:Int×Int} (h:(s.1.zip s.2)[i]?=some p):s.1[i]?=some p.1∧s.2[i]?=some p.2:=by
 rw[List.getElem?_zip_eq_some] at h;exact h
theorem iText_out (s:DSpc) (h:VS s):impl_Space_text s=some (tS s):=by
 obtain⟨z1,z2,z3⟩:=h.zip
 unfold impl_Space_text impl_Space_text_l1
 rw[loop_some (r:=(s.1.zip s.2).map tE) (s.1.zip s.2).length (fun i t=>t=(s,((s.1.zip s.2).take i).map tE,s.1,(s.1.length:Int),(i:Int))) (fun i t hi ht=>?_) (s.1.zip s.2).length 0 _ (by omega) (by simp),obs]
 ·have:=tS_le h
  have hj:strings_Join ((s.1.zip s.2).map tE) [44]=some (Lib.join ((s.1.zip s.2).map tE) [44]):=by
   show joinS _ _=_
   unfold joinS
   rw[if_pos ⟨by rw[List.length_map];omega,by omega⟩]
  rw[hj,obs,if_pos (by simp only[List.length_cons,List.length_nil];omega),if_pos (by simp only[List.length_append,List.length_cons,List.length_nil];omega)]
  rfl
 ·subst ht
  unfold impl_Space_text_l1_b
  by_cases hn:i<(s.1.zip s.2).length
  ·obtain⟨x,hx⟩:=get_at hn
   obtain⟨x1,x2⟩:=zip_get hx
   have hp:=z3 x (List.mem_of_getElem? hx)
   have hl1:=itoa_le x.1 (by have:=hp.b;omega) (by have:=hp.b;omega)
   have hl2:=itoa_le x.2 (by have:=hp.b;omega) (by have:=hp.b;omega)
   have hp2:∀ t:Str,impl_Space_text_p2 s (((s.1.zip s.2).take i).map tE) t s.1 (s.1.length:Int) (i:Int)=some (s,((s.1.zip s.2).take i).map tE++[t],s.1,(s.1.length:Int),(i:Int)):=fun t=>by
    unfold impl_Space_text_p2
    rw[appL_one 16 _ _ (by rw[List.length_map,List.length_take];unfold maxRow;omega),obs]
   have hdec:∀ n:Int,-1≤n∧n≤40→impl_decimal n=some (Lib.itoa n):=fun n hn=>by
    unfold impl_decimal
    show (fmtS n).bind _=_
    unfold fmtS
    rw[if_pos (by omega)];rfl
   have hwi:=w1 (i:=i) (by omega)
   have done:((s.1.zip s.2).take (i+1)).map tE=((s.1.zip s.2).take i).map tE++[tE x]:=by rw[List.take_add_one,hx];simp
   simp only
   rw[if_pos (by omega),if_pos (by omega),Int.toNat_natCast,x1,obs,hdec x.1 (by have:=hp.b;omega),obs,if_pos (by omega),x2,obs]
   refine .inr ⟨hn,(s,((s.1.zip s.2).take (i+1)).map tE,s.1,(s.1.length:Int),(i:Int)+1),?_,by simp⟩
   rw[done,show tE x=Lib.itoa x.1++(if x.2=x.1 then [] else if x.2=-1 then [47,42] else 47::Lib.itoa x.2) from rfl]
   by_cases hm:x.2=-1
   ·rw[if_pos hm,if_pos (by simp only[List.length_cons,List.length_nil];omega),hp2,obs,if_neg (by have:=hp.b;omega),if_pos hm]
    simp only[hwi] <;> rfl
   ·rw[if_neg hm]
    by_cases he:x.2=x.1
    ·rw[if_pos he,hp2,obs,if_pos he,List.append_nil]
     simp only[hwi] <;> rfl
    ·rw[if_neg he,if_pos (by omega),obs,hdec x.2 (by have:=hp.b;omega),obs,if_pos (by simp only[List.length_cons,List.length_nil];omega),if_pos (by simp only[List.length_append,List.length_cons,List.length_nil];omega),hp2,obs,if_neg he,if_neg hm]
     simp only[hwi] <;> rfl
  ·have:i=(s.1.zip s.2).length:=by omega
   subst this
   simp only
   rw[if_neg (by omega),List.take_length]
   exact .inl rfl
theorem loop_fill {β:Type} (n:Nat) (g:Nat→β) (f:List β×Int→Option ((List β×Int) ⊕ List β)) (m:List β) (hm:m.length=n)
  (h1:∀ (m:List β) (i:Nat),i<n→m.length=n→f (m,(i:Int))=some (.inl (m.set i (g i),(i:Int)+1)))
  (h2:∀ m:List β,m.length=n→f (m,(n:Int))=some (.inr m)):loopO f (m,0)=some ((List.range n).map g):=by
 refine loop_some n (fun i s=>s.2=(i:Int)∧s.1.length=n∧∀ j,j<i→s.1[j]?=some (g j)) (fun i s hi hs=>?_) n 0 _ (by omega) ⟨rfl,hm,fun j hj=>by omega⟩
 obtain⟨m,k⟩:=s
 obtain⟨rfl,hml,hall⟩:=hs
 simp only at hml hall ⊢
 by_cases hn:i<n
 ·refine .inr ⟨hn,_,h1 m i hn hml,by simp,by simp[hml],fun j hj=>?_⟩
  by_cases hji:j=i
  ·subst hji;simp only;rw[List.getElem?_set_self (by omega)]
  ·simp only;rw[List.getElem?_set_ne (by omega)];exact hall j (by omega)
 ·have:i=n:=by omega
  subst this
  refine .inl ?_
  rw[h2 m hml]
  congr 2
  apply List.ext_getElem?
  intro j
  by_cases hj:j<i
  ·rw[hall j hj];simp[hj]
  ·rw[List.getElem?_eq_none (by omega),List.getElem?_eq_none (by simp;omega)]
theorem u8_wrap_eq (y:Int):IntKind.u8.wrap y=y % 256:=by simp[IntKind.wrap,IntKind.bits,IntKind.signed]
theorem u64_wrap_in {y:Int} (h:0≤y) (h':y<18446744073709551616):IntKind.u64.wrap y=y:=by simp[IntKind.wrap,IntKind.bits,IntKind.signed];omega
def byB (n:Int) (j:Nat):Bt:=⟨UInt8.ofNat ((shrV .i64 n (8*(j:Int))) % 256).toNat⟩
def leB (n:Int) (k:Nat):Str:=(List.range k).map fun j=>(byB n j).v
@[simp] theorem leB_length (n:Int) (k:Nat):(leB n k).length=k:=by simp[leB]
theorem leB_map (n:Int) (k:Nat):((List.range k).map (byB n)).map Bt.v=leB n k:=by simp[leB,Function.comp_def]
theorem putBytes_out (n:Int) (k:Nat) (hk:k≤8):impl_putBytes n k=some (leB n k):=by
 unfold impl_putBytes impl_putBytes_l1
 rw[mkL_ok 1 _ _ (by unfold maxRow;omega) (by unfold maxRow;omega),obs]
 rw[loop_fill k (byB n) (fun s=>impl_putBytes_l1_b n _ s.1 s.2) _ (by simp) (fun m i hi hm=>?_) (fun m hm=>?_)]
 ·rw[obs,leB_map]
 ·simp only[impl_putBytes_l1_b]
  obtain⟨x,hx⟩:=get_at (l:=m) (by omega:i<m.length)
  rw[List.length_replicate,if_pos (by omega),wrap_in (n:=8*(i:Int)) (by omega) (by omega),if_neg (by omega),if_pos (by omega),Int.toNat_natCast,hx,obs,w1 (by omega),u8_wrap_eq]
  rfl
 ·simp only[impl_putBytes_l1_b]
  rw[List.length_replicate,if_neg (by omega)]
def leN:Str→Nat
 |[]=>0
 |b::s=>b.toNat+256*leN s
theorem leN_lt:∀ s:Str,leN s<256 ^ s.length
 |[]=>by simp[leN]
 |b::s=>by
  have:=leN_lt s
  have hb:b.toNat<256:=b.toNat_lt
  simp only[leN,List.length_cons,Nat.pow_succ]
  omega
theorem leN_append:∀ (s t:Str),leN (s++t)=leN s+256 ^ s.length*leN t
 |[],t=>by simp[leN]
 |b::s,t=>by
  simp only[List.cons_append,leN,leN_append s t,List.length_cons,Nat.pow_succ,Nat.mul_add]
  rw[show 256 ^ s.length*256*leN t=256*(256 ^ s.length*leN t) by rw[Nat.mul_comm (256 ^ s.length) 256,Nat.mul_assoc]]
  omega
theorem pow256 (i:Nat):(2:Int) ^ (8*i)=((256 ^ i:Nat):Int):=by
 rw[Int.pow_mul];simp
theorem p256_lt {i:Nat} (h:i<8):256*256 ^ i≤18446744073709551616:=by
 have:256 ^ i≤256 ^ 7:=Nat.pow_le_pow_right (by omega) (by omega)
 have:(256:Nat) ^ 7=72057594037927936:=by decide
 omega
theorem or_u64 (x b i:Nat) (hx:x<256 ^ i) (hb:b<256) (hi:i<8):bitV .or .u64 (x:Int) (shlV .u64 (b:Int) (8*(i:Int)))=((x+256 ^ i*b:Nat):Int):=by
 have hp:=p256_lt hi
 have hbm:256 ^ i*b≤256 ^ i*255:=Nat.mul_le_mul_left _ (by omega)
 have e1:shlV .u64 (b:Int) (8*(i:Int))=((256 ^ i*b:Nat):Int):=by
  unfold shlV
  rw[show min (8*(i:Int)).toNat (IntKind.bits .u64)=8*i by show min (8*(i:Int)).toNat 64=_;omega,pow256]
  rw[← Int.natCast_mul,Nat.mul_comm]
  exact u64_wrap_in (by omega) (by omega)
 rw[e1]
 show IntKind.u64.wrap ((BitVec.ofInt 64 (x:Int) |||BitVec.ofInt 64 ((256 ^ i*b:Nat):Int)).toNat:Int)=_
 have e2:(BitVec.ofInt 64 (x:Int) |||BitVec.ofInt 64 ((256 ^ i*b:Nat):Int)).toNat=x+256 ^ i*b:=by
  rw[BitVec.toNat_or,BitVec.toNat_ofInt,BitVec.toNat_ofInt]
  rw[show (((x:Nat):Int) % ((2 ^ 64:Nat):Int)).toNat=x by omega,show (((256 ^ i*b:Nat):Int) % ((2 ^ 64:Nat):Int)).toNat=256 ^ i*b by omega]
  have h2:(256:Nat) ^ i=2 ^ (8*i):=by rw[Nat.pow_mul]
  rw[h2] at hx ⊢
  rw[Nat.or_comm,← Nat.two_pow_add_eq_or_of_lt hx]
  omega
 rw[e2]
 exact u64_wrap_in (by omega) (by omega)
theorem getBits_out (s:Str) (h:s.length≤8):impl_getBits s=some (leN s:Int):=by
 unfold impl_getBits impl_getBits_l1
 rw[loop_some (f:=fun t=>impl_getBits_l1_b s s.length t.1 t.2) (r:=(leN s:Int)) s.length (fun i t=>t=((leN (s.take i):Int),(i:Int))) (fun i t hi ht=>?_) s.length 0 _ (by omega) (by simp[leN])]
 ·rfl
 ·subst ht
  simp only[impl_getBits_l1_b]
  by_cases hn:i<s.length
  ·obtain⟨b,hb⟩:=get_at hn
   rw[if_pos (by omega),if_pos (by omega),Int.toNat_natCast,hb,obs,wrap_in (n:=8*(i:Int)) (by omega) (by omega),if_neg (by omega),u64_wrap_in (by omega) (by have:=b.toNat_lt;omega)]
   refine .inr ⟨hn,_,rfl,?_⟩
   have ht:s.take (i+1)=s.take i++[b]:=by rw[List.take_add_one,hb];rfl
   have hl:(s.take i).length=i:=by simp;omega
   have hlt:=leN_lt (s.take i)
   rw[hl] at hlt
   rw[or_u64 _ _ _ hlt b.toNat_lt (by omega),ht,leN_append,hl,w1 (by omega)]
   simp[leN]
  ·have:i=s.length:=by omega
   subst this
   rw[if_neg (by omega),List.take_length]
   exact .inl rfl
abbrev RdD:=Str×Bool
def rdT (r:RdD) (n:Nat):RdD×Str:=if n≤r.1.length then ((r.1.drop n,r.2),r.1.take n) else ((r.1,true),[])
def rdN (r:RdD) (n:Nat):RdD×Int:=((rdT r n).1,(leN (rdT r n).2:Int))
theorem rdT_len (r:RdD) (n:Nat):(rdT r n).1.1.length≤r.1.length∧(rdT r n).2.length≤n∧(r.2=true→(rdT r n).1.2=true):=by
 unfold rdT
 split
 ·exact⟨by simp,by simp;omega,fun h=>h⟩
 ·exact⟨Nat.le_refl _,by simp,fun _=>rfl⟩
theorem iTake_out (r:RdD) (n:Nat) (hn:n≤1048576) (hs:r.1.length≤1048576):impl_decoder_take_o1a r n=some (rdT r n):=by
 obtain⟨s,b⟩:=r
 simp only at hs
 unfold impl_decoder_take_o1a impl_cut rdT
 rw[if_neg (by omega),within_out,obs,wrap_in (n:=(s.length:Int)-n) (by omega) (by omega)]
 by_cases h:n≤s.length
 ·rw[if_neg (by simp;omega),wrap_in (n:=(0:Int)+n) (by omega) (by omega),if_pos h]
  have e1:subL s (some 0) (some (0+(n:Int)))=some (s.take n):=by
   have:=subL_mid s 0 n (by omega) h
   simpa using this
  rw[e1,obs,obs]
  simp only[not_true_eq_false,if_false]
  rw[subL_from s n h];rfl
 ·rw[if_pos (by simp;omega),if_neg h];rfl
theorem iNum_out (r:RdD) (n:Nat) (hn:n≤7) (hs:r.1.length≤1048576):impl_decoder_number_o1a r n=some (rdN r n):=by
 have h1:=leN_lt (rdT r n).2
 have h2:=(rdT_len r n).2.1
 have:256 ^ (rdT r n).2.length≤256 ^ 7:=Nat.pow_le_pow_right (by omega) (by omega)
 unfold impl_decoder_number_o1a rdN
 rw[iTake_out r n (by omega) hs,obs,getBits_out _ (by omega),obs,wrap_in (by omega) (by omega)]
theorem iByte_out (r:RdD) (hs:r.1.length≤1048576):impl_decoder_byte_od0 r=some (rdN r 1):=by
 unfold impl_decoder_byte_od0
 rw[show impl_decoder_number_o1a r 1=some (rdN r 1) from iNum_out r 1 (by omega) hs];rfl
abbrev Rs:=Str×Int×Bool
def RsOk (x:Rs) (s:Str) (r:RdD):Prop:=∃ a:Nat,x=(s,(a:Int),r.2)∧a≤s.length∧r.1=s.drop a
theorem RsOk.all {x:Rs} {s:Str} {r:RdD} (h:RsOk x s r):x.1=s:=by obtain⟨a,rfl,_⟩:=h;rfl
theorem RsOk.len {x:Rs} {s:Str} {r:RdD} (h:RsOk x s r):r.1.length≤s.length:=by obtain⟨a,_,_,h3⟩:=h;rw[h3];simp
theorem RsOk.end {x:Rs} {s:Str} {r:RdD} (h:RsOk x s r):x.2.1=(s.length:Int)↔r.1=[]:=by
 obtain⟨a,rfl,h2,h3⟩:=h
 rw[h3,List.drop_eq_nil_iff]
 simp only
 omega
theorem leB_one (n:Int) (h0:0≤n) (h1:n≤255):leB n 1=[UInt8.ofNat n.toNat]∧leN (leB n 1)=n.toNat:=by
 have e:leB n 1=[UInt8.ofNat n.toNat]:=by
  unfold leB byB
  simp only[List.range_succ,List.range_zero,List.nil_append,List.map_cons,List.map_nil]
  have:shrV .i64 n (8*((0:Nat):Int))=n:=by
   unfold shrV
   simp
  rw[this,Int.emod_eq_of_lt h0 (by omega)]
 refine⟨e,?_⟩
 rw[e]
 simp only[leN,Nat.mul_zero,Nat.add_zero]
 rw[UInt8.toNat_ofNat'];omega
theorem put1 (n:Int):impl_putBytes n 1=some (leB n 1):=putBytes_out n 1 (by omega)
theorem rdN_one (n:Int) (h0:0≤n) (h1:n≤255) (t:Str) (b:Bool):rdN (leB n 1++t,b) 1=((t,b),n):=by
 obtain⟨e1,e2⟩:=leB_one n h0 h1
 unfold rdN rdT
 rw[if_pos (by simp)]
 simp only
 rw[List.take_left' (leB_length n 1),List.drop_left' (leB_length n 1),e2]
 congr 1;omega
end Go.Proofs.TM
