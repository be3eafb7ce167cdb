import Derived.Test.YtfbolaoobodmoaaGreatSA
namespace Go.Proofs.TM
open Go Go.Proofs
set_option maxHeartbeats 1000000
theorem l01Pad_out (s:Str) (n:Nat) (hs:s.length≤n) (h:n≤1048576):spec_l01Pad s n=some (s++List.replicate (n-s.length) 0):=by
 unfold spec_l01Pad
 by_cases hc:(s.length:Int)≥n
 ·rw[if_pos hc,show n-s.length=0 by omega];simp
 ·rw[if_neg hc,wrap_in (by omega) (by omega),show (n:Int)-(s.length:Int)=((n-s.length:Nat):Int) by omega,mkL_ok 1 _ _ (by unfold maxRow;omega) (by unfold maxRow;omega),obs,if_pos (by simp;omega)]
  simp
theorem loop_build {β:Type} (n:Nat) (g:Nat→β) (f:List β×Int→Option ((List β×Int) ⊕ List β))
  (h1:∀ i:Nat,i<n→f ((List.range i).map g,(i:Int))=some (.inl ((List.range (i+1)).map g,(i:Int)+1)))
  (h2:f ((List.range n).map g,(n:Int))=some (.inr ((List.range n).map g))):loopO f ([],0)=some ((List.range n).map g):=by
 refine loop_some n (fun i s=>s=((List.range i).map g,(i:Int))) (fun i s hi hs=>?_) n 0 _ (by omega) rfl
 subst hs
 by_cases hn:i<n
 ·exact .inr ⟨hn,_,h1 i hn,by simp⟩
 ·have:i=n:=by omega
  subst this;exact .inl h2
theorem u8_wrap_eq (y:Int):IntKind.u8.wrap y=y % 256:=by simp[IntKind.wrap,IntKind.bits,IntKind.signed]
theorem u64_wrap_in {y:Int} (h:0≤y) (h':y<18446744073709551616):IntKind.u64.wrap y=y:=by simp[IntKind.wrap,IntKind.bits,IntKind.signed];omega
theorem and255 (y:Int) (h:-9223372036854775808≤y) (h':y≤9223372036854775807):bitV .and .i64 y 255=y % 256:=by
 have e:((BitVec.ofInt 64 y &&& BitVec.ofInt 64 255).toNat:Int)=y % 256:=by
  rw[BitVec.toNat_and,BitVec.toNat_ofInt,BitVec.toNat_ofInt]
  have:((255:Int) % ((2 ^ 64:Nat):Int)).toNat=2 ^ 8-1:=by decide
  rw[this,Nat.and_two_pow_sub_one_eq_mod]
  omega
 show (bitsI .and .i64 y 255).getD 0=_
 show IntKind.i64.wrap ((BitVec.ofInt 64 y &&& BitVec.ofInt 64 255).toNat:Int)=_
 rw[e]
 exact wrap_in (by omega) (by omega)
def byB (n:Int) (j:Nat):Bt:=⟨UInt8.ofNat ((shrV .i64 n (8*(j:Int))) % 256).toNat⟩
def leB (n:Int) (k:Nat):Str:=(List.range k).map fun j=>(byB n j).v
@[simp] theorem leB_length (n:Int) (k:Nat):(leB n k).length=k:=by simp[leB]
theorem leB_map (n:Int) (k:Nat):((List.range k).map (byB n)).map Bt.v=leB n k:=by simp[leB,Function.comp_def]
theorem shr_in {n:Int} (c:Int) (h:-9223372036854775808≤n) (h':n≤9223372036854775807):-9223372036854775808≤shrV .i64 n c∧shrV .i64 n c≤9223372036854775807:=by
 unfold shrV
 rw[Int.fdiv_eq_ediv_of_nonneg _ (by exact Int.pow_nonneg (by omega))]
 have hp:(0:Int)<2 ^ (min c.toNat (IntKind.bits .i64)):=Int.pow_pos (by omega)
 generalize (2:Int) ^ (min c.toNat (IntKind.bits .i64))=p at hp
 constructor
 ·rcases Int.lt_or_le n 0 with h0 |h0
  ·exact Int.le_ediv_of_mul_le hp (by omega)
  ·exact Int.le_trans (by omega) (Int.ediv_nonneg h0 (by omega))
 ·rcases Int.lt_or_le n 0 with h0 |h0
  ·have:=Int.ediv_neg_of_neg_of_pos h0 hp
   omega
  ·exact Int.le_trans (Int.ediv_le_self _ h0) h'
theorem l01Bytes_out (n:Int) (k:Nat) (hk:k≤8) (h:-9223372036854775808≤n) (h':n≤9223372036854775807):spec_l01Bytes n k=some (leB n k):=by
 unfold spec_l01Bytes spec_l01Bytes_l1
 rw[loop_build k (byB n) (fun s=>spec_l01Bytes_l1_b n k s.1 s.2) (fun i hi=>?_) (by simp[spec_l01Bytes_l1_b])]
 ·rw[obs,leB_map]
 ·simp only[spec_l01Bytes_l1_b]
  rw[if_pos (by omega),u64_wrap_in (y:=(i:Int)) (by omega) (by omega),u64_wrap_in (by omega) (by omega),if_neg (by omega)]
  have hs:=shr_in (8*(i:Int)) h h'
  rw[and255 _ hs.1 hs.2,u8_wrap_eq,show (shrV .i64 n (8*(i:Int))) % 256 % 256=(shrV .i64 n (8*(i:Int))) % 256 by omega]
  unfold appL
  rw[if_pos (by simp[lit,maxRow];omega),obs,w1 (by omega)]
  simp[List.range_succ,lit,byB]
def halfS (s:DSuper):Str:=[65,82,82,83]++leB 1 1++leB s.1 2++leB s.2.1 2++leB s.2.2.1 8++leB s.2.2.2 8++List.replicate 7 0
def encS (s:DSuper):Str:=halfS s++halfS s
theorem halfS_length (s:DSuper):(halfS s).length=32:=by simp[halfS]
theorem encS_length (s:DSuper):(encS s).length=64:=by simp[encS,halfS_length]
def SIn (s:DSuper):Prop:=(-9223372036854775808≤s.1∧s.1≤9223372036854775807)∧(-9223372036854775808≤s.2.1∧s.2.1≤9223372036854775807)∧(-9223372036854775808≤s.2.2.1∧s.2.2.1≤9223372036854775807)∧(-9223372036854775808≤s.2.2.2∧s.2.2.2≤9223372036854775807)
theorem l10Encode_out (s:DSuper) (h:SIn s):spec_l10Encode s=some (encS s):=by
 obtain⟨⟨a,b⟩,⟨c,d⟩,⟨e,f⟩,g,i⟩:=h
 unfold spec_l10Encode
 have k1:spec_l01Bytes 1 1=some (leB 1 1):=l01Bytes_out 1 1 (by omega) (by omega) (by omega)
 have k2:spec_l01Bytes s.1 2=some (leB s.1 2):=l01Bytes_out s.1 2 (by omega) a b
 have k3:spec_l01Bytes s.2.1 2=some (leB s.2.1 2):=l01Bytes_out s.2.1 2 (by omega) c d
 have k4:spec_l01Bytes s.2.2.1 8=some (leB s.2.2.1 8):=l01Bytes_out s.2.2.1 8 (by omega) e f
 have k5:spec_l01Bytes s.2.2.2 8=some (leB s.2.2.2 8):=l01Bytes_out s.2.2.2 8 (by omega) g i
 rw[k1,obs,if_pos (by simp),k2,obs,if_pos (by simp),k3,obs,if_pos (by simp),k4,obs,if_pos (by simp),k5,obs]
 have k6:spec_l01Pad ([65,82,82,83]++leB 1 1++leB s.1 2++leB s.2.1 2++leB s.2.2.1 8++leB s.2.2.2 8) 32=some (halfS s):=l01Pad_out ([65,82,82,83]++leB 1 1++leB s.1 2++leB s.2.1 2++leB s.2.2.1 8++leB s.2.2.2 8) 32 (by simp) (by omega)
 rw[if_pos (by simp),k6,obs,if_pos (by simp[halfS_length])]
 rfl
theorem SuperV.sin {s:DSuper} (h:SuperV s):SIn s:=by
 obtain⟨a1,a2,a3,a4,a5,a6,a7,a8,a9⟩:=h
 exact⟨⟨by omega,by omega⟩,⟨by omega,by omega⟩,⟨by omega,by omega⟩,by omega,by omega⟩
def leN:Str→Nat
 |[]=>0
 |b::s=>b.toNat+256*leN s
theorem leN_lt:∀ s:Str,leN s<256 ^ s.length
 |[]=>by simp[leN]
 |b::s=>by
  have:=leN_lt s
  have hb:b.toNat<256:=b.toNat_lt
  simp only[leN,List.length_cons,Nat.pow_succ]
  omega
theorem leN_append:∀ (s t:Str),leN (s++t)=leN s+256 ^ s.length*leN t
 |[],t=>by simp[leN]
 |b::s,t=>by
  simp only[List.cons_append,leN,leN_append s t,List.length_cons,Nat.pow_succ,Nat.mul_add]
  rw[show 256 ^ s.length*256*leN t=256*(256 ^ s.length*leN t) by rw[Nat.mul_comm (256 ^ s.length) 256,Nat.mul_assoc]]
  omega
theorem leN_drop_le (s:Str) (j:Nat):leN (s.drop j)≤leN s:=by
 induction s generalizing j with
 |nil=>simp
 |cons b s ih =>
  cases j with
  |zero=>simp
  |succ j =>
   have:=ih j
   simp only[List.drop_succ_cons,leN];omega
theorem pow256 (i:Nat):(2:Int) ^ (8*i)=((256 ^ i:Nat):Int):=by
 rw[Int.pow_mul];simp
theorem l01GetUint_out (s:Str) (at_ k:Nat) (hk:1≤k∧k≤8) (h:at_+k≤s.length) (hs:s.length≤1048576) :
  spec_l01GetUint s at_ k=some (if leN ((s.drop at_).take k)<9223372036854775808 then ((leN ((s.drop at_).take k):Int),true) else (0,false)):=by
 have hpl:((s.drop at_).take k).length=k:=by simp;omega
 have hget:∀ j,j<k→s[at_+j]?=((s.drop at_).take k)[j]?:=fun j hj=>by rw[List.getElem?_take,if_pos hj,List.getElem?_drop]
 generalize hp:(s.drop at_).take k=p at hpl hget
 have loop:leN p<9223372036854775808→spec_l01GetUint_p1 s at_ k=some ((leN p:Int),true):=fun hlt=>by
  unfold spec_l01GetUint_p1 spec_l01GetUint_l2
  rw[wrap_in (by omega) (by omega)]
  rw[loop_some (f:=fun t=>spec_l01GetUint_l2_b s at_ t.1 t.2) (r:=(leN p:Int)) k (fun i t=>t=((leN (p.drop (k-i)):Int),(k:Int)-1-i)) (fun i t hi ht=>?_) k 0 _ (by omega) (by rw[List.drop_of_length_le (by omega)];simp[leN])]
  ·rfl
  ·subst ht
   simp only[spec_l01GetUint_l2_b]
   by_cases hn:i<k
   ·obtain⟨b,hb⟩:=get_at (l:=p) (i:=k-1-i) (by omega)
    have hd:p.drop (k-(i+1))=b::p.drop (k-i):=by
     rw[show k-(i+1)=k-1-i by omega,show k-i=k-1-i+1 by omega]
     rw[List.drop_eq_getElem_cons (by omega)]
     congr 1
     rw[List.getElem?_eq_getElem (by omega)] at hb
     exact Option.some.inj hb
    have hle:=leN_drop_le p (k-(i+1))
    have e:leN (p.drop (k-(i+1)))=b.toNat+256*leN (p.drop (k-i)):=by rw[hd];rfl
    have hbl:=b.toNat_lt
    rw[if_pos (by omega),wrap_in (n:=(at_:Int)+_) (by omega) (by omega),if_pos (by omega),show ((at_:Int)+((k:Int)-1-i)).toNat=at_+(k-1-i) by omega,hget _ (by omega),hb,obs]
    rw[wrap_in (n:=(b.toNat:Int)) (by omega) (by omega),wrap_in (n:=_*256) (by omega) (by omega),wrap_in (by omega) (by omega),wrap_in (by omega) (by omega)]
    refine .inr ⟨hn,_,rfl,?_⟩
    rw[e]
    simp only[Prod.mk.injEq]
    omega
   ·have:i=k:=by omega
    subst this
    rw[if_neg (by omega)]
    simp
 unfold spec_l01GetUint spec_l01Within
 simp only[l00In_out,obs,decide_eq_true_eq]
 rw[if_pos (by omega),if_pos (by omega),obs,wrap_in (by omega) (by omega),if_neg (by simp;omega)]
 by_cases h8:(k:Int)=8
 ·rw[if_pos h8,wrap_in (by omega) (by omega),if_pos (by omega)]
  obtain⟨b,hb⟩:=get_at (l:=p) (i:=7) (by omega)
  rw[show ((at_:Int)+7).toNat=at_+7 by omega,hget 7 (by omega),hb,obs]
  have hsp:p=p.take 7++[b]:=by
   have h1:p.take (7+1)=p.take 7++[b]:=by rw[List.take_add_one,hb];rfl
   rw[List.take_of_length_le (by omega)] at h1
   exact h1
  have hv:leN p=leN (p.take 7)+72057594037927936*b.toNat:=by
   conv=>lhs;rw[hsp]
   rw[leN_append,show (p.take 7).length=7 by simp;omega]
   simp[leN]
  have hlt:=leN_lt (p.take 7)
  rw[show (p.take 7).length=7 by simp;omega] at hlt
  have h256:(256:Nat) ^ 7=72057594037927936:=by decide
  by_cases hb7:(b.toNat:Int)>127
  ·rw[if_pos hb7,if_neg (by omega)]
  ·rw[if_neg hb7,loop (by omega),obs,if_pos (by omega)]
 ·have hlt:=leN_lt p
  rw[hpl] at hlt
  have:(256:Nat) ^ k≤256 ^ 7:=Nat.pow_le_pow_right (by omega) (by omega)
  have h256:(256:Nat) ^ 7=72057594037927936:=by decide
  rw[if_neg h8,loop (by omega),obs,if_pos (by omega)]
def rawS (b:Str):DSuper:=(IntKind.i64.wrap (leN ((b.drop 5).take 2):Int),IntKind.i64.wrap (leN ((b.drop 7).take 2):Int),IntKind.i64.wrap (leN ((b.drop 9).take 8):Int),IntKind.i64.wrap (leN ((b.drop 17).take 8):Int))
open Classical in
noncomputable def decS (b:Str):DSuper×Bool:=if SuperV (rawS b)∧encS (rawS b)=b then (rawS b,true) else ((0,0,0,0),false)
theorem wrap_small {n:Nat} (h:n<9223372036854775808):IntKind.i64.wrap (n:Int)=n:=wrap_in (by omega) (by omega)
theorem wrap_big {n:Nat} (h:¬n<9223372036854775808) (h':n<18446744073709551616):IntKind.i64.wrap (n:Int)<0:=by
 rw[IntKind.wrap_i64];omega
open Classical in
theorem sDecode_out (b:Str) (h:b.length=64):spec_DecodeSuper b=some (decS b):=by
 unfold spec_DecodeSuper
 rw[if_neg (by omega)]
 have g1:=l01GetUint_out b 5 2 (by omega) (by omega) (by omega)
 have g2:=l01GetUint_out b 7 2 (by omega) (by omega) (by omega)
 have g3:=l01GetUint_out b 9 8 (by omega) (by omega) (by omega)
 have g4:=l01GetUint_out b 17 8 (by omega) (by omega) (by omega)
 have b1:leN ((b.drop 5).take 2)<65536:=by have:=leN_lt ((b.drop 5).take 2);rw[show ((b.drop 5).take 2).length=2 by simp;omega] at this;simpa using this
 have b2:leN ((b.drop 7).take 2)<65536:=by have:=leN_lt ((b.drop 7).take 2);rw[show ((b.drop 7).take 2).length=2 by simp;omega] at this;simpa using this
 have b3:leN ((b.drop 9).take 8)<18446744073709551616:=by have:=leN_lt ((b.drop 9).take 8);rw[show ((b.drop 9).take 8).length=8 by simp;omega] at this;simpa using this
 have b4:leN ((b.drop 17).take 8)<18446744073709551616:=by have:=leN_lt ((b.drop 17).take 8);rw[show ((b.drop 17).take 8).length=8 by simp;omega] at this;simpa using this
 rw[if_pos (by omega)] at g1 g2
 have hraw:rawS b=((leN ((b.drop 5).take 2):Int),(leN ((b.drop 7).take 2):Int),IntKind.i64.wrap (leN ((b.drop 9).take 8):Int),IntKind.i64.wrap (leN ((b.drop 17).take 8):Int)):=by
  unfold rawS
  rw[wrap_small (n:=leN ((b.drop 5).take 2)) (by omega),wrap_small (n:=leN ((b.drop 7).take 2)) (by omega)]
 generalize leN ((b.drop 5).take 2)=x1 at *
 generalize leN ((b.drop 7).take 2)=x2 at *
 generalize leN ((b.drop 9).take 8)=x3 at *
 generalize leN ((b.drop 17).take 8)=x4 at *
 have G1:spec_l01GetUint b 5 2=some ((x1:Int),true):=g1
 have G2:spec_l01GetUint b 7 2=some ((x2:Int),true):=g2
 have G3:spec_l01GetUint b 9 8=some (if x3<9223372036854775808 then ((x3:Int),true) else (0,false)):=g3
 have G4:spec_l01GetUint b 17 8=some (if x4<9223372036854775808 then ((x4:Int),true) else (0,false)):=g4
 have step:∀ (p:Int×Bool) (q:Int×Bool),spec_l01GetUint b 9 8=some p→spec_l01GetUint b 17 8=some q→∃ a5,spec_DecodeSuper_l1 (b,(0,0,0,0),(0,0,0,0),true,0)=some (b,a5,((x1:Int),(x2:Int),p.1,q.1),p.2&&q.2):=by
  intro p q hp hq
  refine⟨(0,0,0,0),?_⟩
  unfold spec_DecodeSuper_l1
  have k1:IntKind.i64.wrap 1=1:=by decide
  have k2:IntKind.i64.wrap 2=2:=by decide
  have k3:IntKind.i64.wrap 3=3:=by decide
  have k4:IntKind.i64.wrap 4=4:=by decide
  rw[loopO_inl (s':=(b,(0,0,0,0),((x1:Int),0,0,0),true,1)) (by simp[spec_DecodeSuper_l1_b,spec_DecodeSuper_p2,lit,G1,k1])]
  rw[loopO_inl (s':=(b,(0,0,0,0),((x1:Int),(x2:Int),0,0),true,2)) (by simp[spec_DecodeSuper_l1_b,spec_DecodeSuper_p2,lit,G2,k2])]
  rw[loopO_inl (s':=(b,(0,0,0,0),((x1:Int),(x2:Int),p.1,0),p.2,3)) (by simp[spec_DecodeSuper_l1_b,spec_DecodeSuper_p2,lit,hp,k3])]
  rw[loopO_inl (s':=(b,(0,0,0,0),((x1:Int),(x2:Int),p.1,q.1),p.2&&q.2,4)) (by cases hp2:p.2 <;> simp[spec_DecodeSuper_l1_b,spec_DecodeSuper_p2,lit,hq,k4])]
  rw[loopO_inr (r:=(b,(0,0,0,0),((x1:Int),(x2:Int),p.1,q.1),p.2&&q.2)) (by simp[spec_DecodeSuper_l1_b])]
 obtain⟨a5,hl⟩:=step _ _ G3 G4
 rw[hl,obs]
 simp only
 unfold decS
 by_cases h3:x3<9223372036854775808
 case neg =>
  rw[if_neg h3]
  simp only[Bool.false_and,Bool.false_eq_true,not_false_eq_true,if_true]
  rw[if_neg]
  rintro⟨hv,_⟩
  rw[hraw] at hv
  have:=hv.2.2.2.2.2.1
  have:=wrap_big h3 b3
  simp only at *
  omega
 by_cases h4:x4<9223372036854775808
 case neg =>
  rw[if_neg h4]
  simp only[Bool.and_false,Bool.false_eq_true,not_false_eq_true,if_true]
  rw[if_neg]
  rintro⟨hv,_⟩
  rw[hraw] at hv
  have:=hv.2.2.2.2.2.2.2.1
  have:=wrap_big h4 b4
  simp only at *
  omega
 rw[wrap_small h3,wrap_small h4] at hraw
 rw[if_pos h3,if_pos h4]
 simp only[Bool.and_self,not_true_eq_false,if_false,sValidSuper_out,obs,deq]
 rw[hraw]
 by_cases h1:SuperV ((x1:Int),(x2:Int),(x3:Int),(x4:Int))
 case neg=>rw[if_pos h1,if_neg (fun q=>h1 q.1)]
 rw[if_neg (by simpa using h1),l10Encode_out _ h1.sin,obs]
 by_cases h2:encS ((x1:Int),(x2:Int),(x3:Int),(x4:Int))=b
 case neg=>rw[if_pos h2,if_neg (fun q=>h2 q.2)]
 rw[if_neg (by simpa using h2),if_pos ⟨h1,h2⟩]
noncomputable def slotS (d:DDisk) (k:Int):DSuper×Bool :=
 if (decS (rdD d k)).2=true∧(decS (rdD d k)).1.1=(d.1.length:Int)∧Int.tmod (decS (rdD d k)).1.2.2.2 2=k then ((decS (rdD d k)).1,true) else ((0,0,0,0),false)
noncomputable def choS (d:DDisk):DSuper×Bool :=
 if (slotS d 0).2=true∧¬((slotS d 1).2=true∧(slotS d 0).1.2.2.2<(slotS d 1).1.2.2.2) then slotS d 0 else slotS d 1
theorem slotS_tmod {d:DDisk} {k:Int} (h:(slotS d k).2=true):Int.tmod (slotS d k).1.2.2.2 2=k:=by
 unfold slotS at *
 split
 ·rename_i q;exact q.2.2
 ·rename_i q;rw[if_neg q] at h;cases h
open Classical in
theorem l10Slot_out (d:DDisk) (k:Int) (hd:DiskV d) (h0:0≤k) (h1:k<(d.1.length:Int)):spec_l10Slot d k=some (slotS d k):=by
 obtain⟨r1,r2⟩:=readD_out d k hd h0 h1
 unfold spec_l10Slot slotS
 rw[l09Read_out d k (by have:=hd.2.2.1;omega),r1,obs,sDecode_out _ r2,obs]
 generalize decS (rdD d k)=r
 by_cases c1:r.2=true
 case neg=>rw[if_pos c1,if_neg (fun q=>c1 q.1)]
 rw[if_neg (by simpa using c1)]
 by_cases c2:r.1.1=(d.1.length:Int)
 case neg=>rw[if_pos c2,if_neg (fun q=>c2 q.2.1)]
 rw[if_neg (by simpa using c2)]
 by_cases c3:Int.tmod r.1.2.2.2 2=k
 case neg=>rw[if_pos c3,if_neg (fun q=>c3 q.2.2)]
 rw[if_neg (by simpa using c3),if_pos ⟨c1,c2,c3⟩]
theorem l10Choose_out (d:DDisk) (hd:DiskV d):spec_l10Choose d=some (if (choS d).2=true then ((choS d).1,0) else ((0,0,0,0),10)):=by
 unfold spec_l10Choose
 have hl:=hd.1
 rw[l10Slot_out d 0 hd (by omega) (by omega),l10Slot_out d 1 hd (by omega) (by omega),obs,obs]
 have t0:=slotS_tmod (d:=d) (k:=0)
 have t1:=slotS_tmod (d:=d) (k:=1)
 have hch:choS d=(if (slotS d 0).2=true∧¬((slotS d 1).2=true∧(slotS d 0).1.2.2.2<(slotS d 1).1.2.2.2) then slotS d 0 else slotS d 1):=by
  unfold choS;congr
 generalize slotS d 0=a at *
 generalize slotS d 1=b at *
 generalize choS d=c at *
 by_cases c0:a.2=true
 ·rw[if_pos c0]
  by_cases c1:b.2=true
  ·rw[if_neg (by simpa using c1)]
   by_cases c2:a.1.2.2.2>b.1.2.2.2
   ·rw[if_pos ⟨c0,fun q=>by omega⟩] at hch
    subst hch
    rw[if_pos c2,if_pos c0]
   ·have hne:a.1.2.2.2≠b.1.2.2.2:=fun e=>by
     have:=t0 c0;rw[e,t1 c1] at this;omega
    rw[if_neg (fun q=>q.2 ⟨c1,by omega⟩)] at hch
    subst hch
    rw[if_neg c2,if_pos c1]
    simp[spec_l10Choose_p1,c1]
  ·rw[if_pos ⟨c0,fun q=>c1 q.1⟩] at hch
   subst hch
   rw[if_pos c1,if_pos c0]
 ·rw[if_neg (fun q=>c0 q.1)] at hch
  subst hch
  rw[if_neg c0]
  by_cases c1:c.2=true
  ·rw[if_pos c1];simp[spec_l10Choose_p1,c1]
  ·rw[if_neg c1]
   have:c.2=false:=by simpa using c1
   simp[spec_l10Choose_p1,this]
theorem shr8 (n j:Nat) (h:8*j≤64):shrV .i64 (n:Int) (8*(j:Int))=((n / 256 ^ j:Nat):Int):=by
 unfold shrV
 rw[show min (8*(j:Int)).toNat IntKind.i64.bits=8*j by show min (8*(j:Int)).toNat 64=8*j;omega,pow256]
 rw[Int.fdiv_eq_ediv_of_nonneg _ (Int.natCast_nonneg _)]
 exact (Int.natCast_ediv _ _).symm
theorem leN_leB (n:Nat):∀ k:Nat,k≤8→leN (leB (n:Int) k)=n % 256 ^ k
 |0,_=>by simp[leB,leN];omega
 |k+1,hk=>by
  have e:leB (n:Int) (k+1)=leB (n:Int) k++[(byB (n:Int) k).v]:=by simp[leB,List.range_succ]
  rw[e,leN_append,leN_leB n k (by omega),leB_length]
  have hb:((byB (n:Int) k).v).toNat=n / 256 ^ k % 256:=by
   unfold byB
   rw[shr8 n k (by omega)]
   have:(((n / 256 ^ k:Nat):Int) % 256).toNat=n / 256 ^ k % 256:=by omega
   rw[this]
   simp
  rw[show leN [(byB (n:Int) k).v]=n / 256 ^ k % 256 by simp[leN,hb]]
  rw[Nat.pow_succ,Nat.mod_mul]
theorem rawS_enc (s:DSuper) (h:SuperV s):rawS (encS s)=s:=by
 obtain⟨h1,h2,h3,h4,h5,h6,h7,h8,h9⟩:=h
 obtain⟨a,b,c,d⟩:=s
 simp only at h1 h2 h3 h4 h5 h6 h7 h8 h9
 obtain⟨a,rfl⟩:∃ n:Nat,a=n:=⟨a.toNat,by omega⟩
 obtain⟨b,rfl⟩:∃ n:Nat,b=n:=⟨b.toNat,by omega⟩
 obtain⟨c,rfl⟩:∃ n:Nat,c=n:=⟨c.toNat,by omega⟩
 obtain⟨d,rfl⟩:∃ n:Nat,d=n:=⟨d.toNat,by omega⟩
 have cut:∀ (p q r:Str) (i k:Nat),p.length=i→q.length=k→((p++(q++r)).drop i).take k=q:=fun p q r i k hp hq=>by
  rw[List.drop_left' hp,List.take_left' hq]
 have e:encS ((a:Int),(b:Int),(c:Int),(d:Int))=[65,82,82,83]++(leB 1 1++(leB a 2++(leB b 2++(leB c 8++(leB d 8++(List.replicate 7 0++halfS ((a:Int),(b:Int),(c:Int),(d:Int)))))))):=by
  simp[encS,halfS]
 have c1:((encS ((a:Int),(b:Int),(c:Int),(d:Int))).drop 5).take 2=leB a 2:=by
  rw[e,show [65,82,82,83]++(leB 1 1++(leB a 2++(leB b 2++(leB c 8++(leB d 8++(List.replicate 7 0++halfS ((a:Int),(b:Int),(c:Int),(d:Int))))))))=([65,82,82,83]++leB 1 1)++(leB a 2++(leB b 2++(leB c 8++(leB d 8++(List.replicate 7 0++halfS ((a:Int),(b:Int),(c:Int),(d:Int))))))) by simp]
  exact cut _ _ _ 5 2 (by simp) (by simp)
 have c2:((encS ((a:Int),(b:Int),(c:Int),(d:Int))).drop 7).take 2=leB b 2:=by
  rw[e,show [65,82,82,83]++(leB 1 1++(leB a 2++(leB b 2++(leB c 8++(leB d 8++(List.replicate 7 0++halfS ((a:Int),(b:Int),(c:Int),(d:Int))))))))=([65,82,82,83]++leB 1 1++leB a 2)++(leB b 2++(leB c 8++(leB d 8++(List.replicate 7 0++halfS ((a:Int),(b:Int),(c:Int),(d:Int)))))) by simp]
  exact cut _ _ _ 7 2 (by simp) (by simp)
 have c3:((encS ((a:Int),(b:Int),(c:Int),(d:Int))).drop 9).take 8=leB c 8:=by
  rw[e,show [65,82,82,83]++(leB 1 1++(leB a 2++(leB b 2++(leB c 8++(leB d 8++(List.replicate 7 0++halfS ((a:Int),(b:Int),(c:Int),(d:Int))))))))=([65,82,82,83]++leB 1 1++leB a 2++leB b 2)++(leB c 8++(leB d 8++(List.replicate 7 0++halfS ((a:Int),(b:Int),(c:Int),(d:Int))))) by simp]
  exact cut _ _ _ 9 8 (by simp) (by simp)
 have c4:((encS ((a:Int),(b:Int),(c:Int),(d:Int))).drop 17).take 8=leB d 8:=by
  rw[e,show [65,82,82,83]++(leB 1 1++(leB a 2++(leB b 2++(leB c 8++(leB d 8++(List.replicate 7 0++halfS ((a:Int),(b:Int),(c:Int),(d:Int))))))))=([65,82,82,83]++leB 1 1++leB a 2++leB b 2++leB c 8)++(leB d 8++(List.replicate 7 0++halfS ((a:Int),(b:Int),(c:Int),(d:Int)))) by simp]
  exact cut _ _ _ 17 8 (by simp) (by simp)
 have n1:=leN_leB a 2 (by omega)
 have n2:=leN_leB b 2 (by omega)
 have n3:=leN_leB c 8 (by omega)
 have n4:=leN_leB d 8 (by omega)
 rw[Nat.mod_eq_of_lt (by omega)] at n1 n2 n3 n4
 unfold rawS
 rw[c1,c2,c3,c4,n1,n2,n3,n4,wrap_in (by omega) (by omega),wrap_in (by omega) (by omega),wrap_in (by omega) (by omega),wrap_in (by omega) (by omega)]
theorem decS_enc (s:DSuper) (h:SuperV s):decS (encS s)=(s,true):=by
 unfold decS
 rw[rawS_enc s h,if_pos ⟨h,rfl⟩]
def barL (b:List Str) (p:List (Int×Str)):Nat→List Str
 |0=>b
 |i+1=>(barL b p i).set (p.getD i (0,[])).1.toNat (p.getD i (0,[])).2
theorem barL_len (b:List Str) (p:List (Int×Str)):∀ i,(barL b p i).length=b.length
 |0=>rfl
 |i+1=>by simp[barL,barL_len b p i]
theorem barL_64 (b:List Str) (p:List (Int×Str)) (hb:∀ x∈b,x.length=64) (hp:∀ x∈p,x.2.length=64):∀ i,i≤p.length→∀ x∈barL b p i,x.length=64
 |0,_=>hb
 |i+1,hi=>fun x hx=>by
  simp only[barL] at hx
  rcases List.mem_or_eq_of_mem_set hx with h |h
  ·exact barL_64 b p hb hp i (by omega) x h
  ·obtain⟨y,hy⟩:=get_at (show i<p.length by omega)
   subst h
   simp only[List.getD_eq_getElem?_getD,hy,Option.getD_some]
   exact hp y (List.mem_of_getElem? hy)
def decF (f:Int):Int:=if f>0 then f-1 else f
def offD (d:DDisk):DDisk:=(d.1,d.2.1,d.2.2.1,true)
def NoPow (d:DDisk):Prop:=d.2.2.2=true∨d.2.2.1=0
instance (d:DDisk):Decidable (NoPow d):=inferInstanceAs (Decidable (_∨_))
def barD (d:DDisk):DDisk×Int:=if NoPow d then (offD d,13) else ((barL d.1 d.2.1 d.2.1.length,[],decF d.2.2.1,d.2.2.2),0)
def wrD (d:DDisk) (k:Int) (b:Str):DDisk×Int:=if NoPow d then (offD d,13) else ((d.1,d.2.1++[(k,b)],decF d.2.2.1,d.2.2.2),0)
def andD (r:DDisk×Int) (f:DDisk→DDisk×Int):DDisk×Int:=if r.2=0 then f r.1 else r
def wrL:DDisk→List (Int×Str)→DDisk×Int
 |d,[]=>(d,0)
 |d,x::l=>andD (wrD d x.1 x.2) fun e=>wrL e l
def zB:Str:=List.replicate 64 0
def clrD:DDisk→Nat→Int→DDisk×Int
 |d,0,_=>(d,0)
 |d,n+1,k=>if rdD d k=zB then clrD d n (k+1) else andD (wrD d k zB) fun e=>clrD e n (k+1)
def ckD (d:DDisk) (l:List (Int×Str)) (s:DSuper) (n:Nat):DDisk×Int :=
 andD (barD d) fun d=>andD (wrL d l) fun d=>andD (barD d) fun d=>andD (wrD d (Int.tmod s.2.2.2 2) (encS s)) fun d=>andD (barD d) fun d=>andD (clrD d n 2) fun d=>barD d
def DInv (n m:Nat) (d:DDisk):Prop:=DiskV d∧d.1.length=n∧d.2.1.length≤m
theorem decF_in {f:Int} (h0:-1≤f) (h1:f≤100000):-1≤decF f∧decF f≤100000:=by unfold decF;split <;> omega
theorem barD_inv {n m:Nat} {d:DDisk} (h:DInv n m d):((barD d).2=0∧DInv n 0 (barD d).1)∨((barD d).2=13∧DInv n m (barD d).1):=by
 obtain⟨⟨a1,a2,a3,a4,a5,a6,a7⟩,h2,h3⟩:=h
 unfold barD
 split
 ·exact .inr ⟨rfl,⟨a1,a2,a3,a4,a5,a6,a7⟩,h2,h3⟩
 ·have:=decF_in a4 a5
  exact .inl ⟨rfl,⟨by simp only[barL_len];exact a1,by simp only[barL_len];exact a2,by simp,this.1,this.2,fun x hx=>barL_64 _ _ a6 (fun x hx=>(a7 x hx).2.2) _ (Nat.le_refl _) x hx,by simp⟩,by simp only[barL_len];exact h2,by simp⟩
theorem wrD_inv {n m:Nat} {d:DDisk} (h:DInv n m d) {k:Int} {b:Str} (h0:0≤k) (h1:k<n) (hb:b.length=64) (hm:m<600):((wrD d k b).2=0∨(wrD d k b).2=13)∧DInv n (m+1) (wrD d k b).1:=by
 obtain⟨⟨a1,a2,a3,a4,a5,a6,a7⟩,h2,h3⟩:=h
 unfold wrD
 split
 ·exact⟨.inr rfl,⟨a1,a2,a3,a4,a5,a6,a7⟩,h2,by show d.2.1.length≤m+1;omega⟩
 ·have:=decF_in a4 a5
  refine⟨.inl rfl,⟨a1,a2,by simp only[List.length_append,List.length_singleton];omega,this.1,this.2,a6,fun x hx=>?_⟩,h2,by simp only[List.length_append,List.length_singleton];omega⟩
  rcases List.mem_append.1 hx with h |h
  ·exact a7 x h
  ·simp only[List.mem_singleton] at h;subst h;exact⟨h0,by simp only;omega,hb⟩
theorem wrL_inv {n:Nat}:∀ (l:List (Int×Str)) (m:Nat) (d:DDisk),DInv n m d→(∀ x∈l,0≤x.1∧x.1<n∧x.2.length=64)→m+l.length≤600→((wrL d l).2=0∨(wrL d l).2=13)∧DInv n (m+l.length) (wrL d l).1
 |[],m,d,h,_,_=>⟨.inl rfl,h⟩
 |x::l,m,d,h,hl,hm=>by
  have hx:=hl x (by simp)
  simp only[List.length_cons] at hm ⊢
  obtain⟨h1,h2⟩:=wrD_inv h hx.1 hx.2.1 hx.2.2 (by omega)
  simp only[wrL,andD]
  split
  ·have:=wrL_inv l (m+1) _ h2 (fun y hy=>hl y (by simp[hy])) (by omega)
   rw[show m+1+l.length=m+(l.length+1) by omega] at this
   exact this
  ·exact⟨h1,h2.1,h2.2.1,by have:=h2.2.2;omega⟩
theorem zB_len:zB.length=64:=by simp[zB]
theorem clrD_inv {n:Nat}:∀ (c m:Nat) (k:Int) (d:DDisk),DInv n m d→0≤k→k+c≤n→m+c≤600→((clrD d c k).2=0∨(clrD d c k).2=13)∧DInv n (m+c) (clrD d c k).1
 |0,m,k,d,h,_,_,_=>⟨.inl rfl,h⟩
 |c+1,m,k,d,h,h0,h1,hm=>by
  simp only[clrD]
  split
  ·obtain⟨g1,g2⟩:=clrD_inv c m (k+1) d h (by omega) (by omega) (by omega)
   exact⟨g1,g2.1,g2.2.1,by have:=g2.2.2;omega⟩
  ·obtain⟨g1,g2⟩:=wrD_inv h h0 (by omega) zB_len (by omega)
   simp only[andD]
   split
   ·have:=clrD_inv c (m+1) (k+1) _ g2 (by omega) (by omega) (by omega)
    rw[show m+1+c=m+(c+1) by omega] at this
    exact this
   ·exact⟨g1,g2.1,g2.2.1,by have:=g2.2.2;omega⟩
theorem wr_loop {σ ρ:Type} {n m:Nat} (l:List (Int×Str)) (hl:∀ x∈l,0≤x.1∧x.1<n∧x.2.length=64) (hm:m+l.length≤600) (E:DDisk→Nat→σ) (F:DDisk→ρ) (G:DDisk×Int→ρ) (f:σ→Option (σ ⊕ ρ))
  (h1:∀ (d:DDisk) (i:Nat) (x:Int×Str),DInv n (m+i) d→i<l.length→l[i]?=some x→f (E d i)=some (if (wrD d x.1 x.2).2=0 then .inl (E (wrD d x.1 x.2).1 (i+1)) else .inr (G (wrD d x.1 x.2))))
  (h2:∀ d,DInv n (m+l.length) d→f (E d l.length)=some (.inr (F d))):∀ (c i:Nat) (d:DDisk),l.length-i=c→i≤l.length→DInv n (m+i) d→loopO f (E d i)=some (if (wrL d (l.drop i)).2=0 then F (wrL d (l.drop i)).1 else G (wrL d (l.drop i)))
 |0,i,d,hc,hi,hd=>by
  have:i=l.length:=by omega
  subst this
  rw[loopO_inr (f:=f) (h2 d hd),List.drop_of_length_le (Nat.le_refl _)];rfl
 |c+1,i,d,hc,hi,hd=>by
  obtain⟨x,hx⟩:=get_at (show i<l.length by omega)
  have hx2:=hl x (List.mem_of_getElem? hx)
  have hs:=h1 d i x hd (by omega) hx
  have hdr:l.drop i=x::l.drop (i+1):=by
   obtain⟨h3,h4⟩:=List.getElem?_eq_some_iff.1 hx
   rw[← h4];exact List.drop_eq_getElem_cons h3
  rw[hdr]
  simp only[wrL,andD]
  by_cases hz:(wrD d x.1 x.2).2=0
  ·rw[if_pos hz] at hs
   rw[loopO_inl (f:=f) hs,if_pos hz]
   exact wr_loop l hl hm E F G f h1 h2 c (i+1) _ (by omega) (by omega) (wrD_inv hd hx2.1 hx2.2.1 hx2.2.2 (by omega)).2
  ·rw[if_neg hz] at hs
   rw[loopO_inr (f:=f) hs,if_neg hz,if_neg hz]
theorem clr_loop {σ ρ:Type} {n:Nat} (N:Nat) (hN:N+2≤n) (h64:N≤600) (E:DDisk→Nat→σ) (F:DDisk→ρ) (G:DDisk×Int→ρ) (f:σ→Option (σ ⊕ ρ))
  (h1:∀ (d:DDisk) (i:Nat),DInv n i d→i<N→f (E d i)=some (if rdD d (2+i)=zB then .inl (E d (i+1)) else if (wrD d (2+i) zB).2=0 then .inl (E (wrD d (2+i) zB).1 (i+1)) else .inr (G (wrD d (2+i) zB))))
  (h2:∀ d,DInv n N d→f (E d N)=some (.inr (F d))):∀ (c i:Nat) (d:DDisk),N-i=c→i≤N→DInv n i d→loopO f (E d i)=some (if (clrD d c (2+i)).2=0 then F (clrD d c (2+i)).1 else G (clrD d c (2+i)))
 |0,i,d,hc,hi,hd=>by
  have:i=N:=by omega
  subst this
  rw[loopO_inr (f:=f) (h2 d hd)];rfl
 |c+1,i,d,hc,hi,hd=>by
  have hs:=h1 d i hd (by omega)
  have hk:(2:Int)+(i:Int)+1=2+((i+1:Nat):Int):=by omega
  by_cases hr:rdD d (2+i)=zB
  ·have hcl:clrD d (c+1) (2+i)=clrD d c (2+((i+1:Nat):Int)):=by rw[← hk];simp only[clrD,if_pos hr]
   rw[hcl]
   rw[if_pos hr] at hs
   rw[loopO_inl (f:=f) hs]
   exact clr_loop N hN h64 E F G f h1 h2 c (i+1) d (by omega) (by omega) ⟨hd.1,hd.2.1,by have:=hd.2.2;omega⟩
  ·have hcl:clrD d (c+1) (2+i)=andD (wrD d (2+i) zB) fun e=>clrD e c (2+((i+1:Nat):Int)):=by rw[← hk];simp only[clrD,if_neg hr]
   rw[hcl]
   rw[if_neg hr] at hs
   by_cases hz:(wrD d (2+i) zB).2=0
   ·rw[if_pos hz] at hs
    rw[loopO_inl (f:=f) hs,show andD (wrD d (2+i) zB) (fun e=>clrD e c (2+((i+1:Nat):Int)))=clrD (wrD d (2+i) zB).1 c (2+((i+1:Nat):Int)) from if_pos hz]
    exact clr_loop N hN h64 E F G f h1 h2 c (i+1) _ (by omega) (by omega) (wrD_inv hd (by omega) (by omega) zB_len (by omega)).2
   ·rw[if_neg hz] at hs
    rw[loopO_inr (f:=f) hs,show andD (wrD d (2+i) zB) (fun e=>clrD e c (2+((i+1:Nat):Int)))=wrD d (2+i) zB from if_neg hz,if_neg hz]
abbrev PRest:=DSuper×Int×Int×List (Int×Str)×List (Int×Str)
abbrev DFlat (γ:Type):=List Str×List (Int×Str)×Int×Bool×Int×Int×Int×Int×Int×Int×List (Int×Str)×List (Int×Str)×γ
def flat {γ:Type} (d:DDisk) (q:PRest) (c:γ):DFlat γ:=(d.1,d.2.1,d.2.2.1,d.2.2.2,q.1.1,q.1.2.1,q.1.2.2.1,q.1.2.2.2,q.2.1,q.2.2.1,q.2.2.2.2,q.2.2.2.1,c)
theorem fixLen_self {α:Type} (l:List α):fixLen l l=l:=fixLen_eq rfl
theorem sBar_loop (b:List Str) (pe:List (Int×Str)) (fu:Int) (off:Bool) (q:PRest) (hp:∀ x∈pe,0≤x.1∧x.1≤(b.length:Int)-1) (hl:pe.length≤1048576) :
  spec_l09Barrier_o19_l1 (((b,pe,fu,off),q),0)=some ((barL b pe pe.length,pe,fu,off),q):=by
 unfold spec_l09Barrier_o19_l1
 refine loop_some pe.length (fun i s=>s=(((barL b pe i,pe,fu,off),q),(i:Int))) (fun i s hi hs=>?_) pe.length 0 _ (by omega) rfl
 subst hs
 by_cases hn:i<pe.length
 ·obtain⟨x,hx⟩:=get_at hn
  have hb:=hp x (List.mem_of_getElem? hx)
  have hlen:=barL_len b pe i
  obtain⟨y,hy⟩:=get_at (l:=barL b pe i) (i:=x.1.toNat) (by omega)
  refine .inr ⟨hn,(((barL b pe (i+1),pe,fu,off),q),((i+1:Nat):Int)),?_,rfl⟩
  simp only[spec_l09Barrier_o19_l1_b]
  rw[if_pos (by omega),if_pos (by omega),Int.toNat_natCast,hx,obs,if_pos (by omega),obs,if_pos (by omega),hy,obs,w1 (by omega)]
  simp[barL,List.getD_eq_getElem?_getD,hx]
 ·have:i=pe.length:=by omega
  subst this
  refine .inl ?_
  simp only[spec_l09Barrier_o19_l1_b]
  rw[if_neg (by omega)]
theorem bar36_loop (b:List Str) (pe:List (Int×Str)) (fu:Int) (off:Bool) (s1 s2 s3 s4 sq at_:Int) (di lg:List (Int×Str)) (hp:∀ x∈pe,0≤x.1∧x.1≤(b.length:Int)-1) (hl:pe.length≤1048576) :
  spec_l09Barrier_o36_l1 pe fu off s1 s2 s3 s4 sq at_ di lg (b,0)=some (barL b pe pe.length,pe,fu,off,s1,s2,s3,s4,sq,at_,di,lg):=by
 unfold spec_l09Barrier_o36_l1
 refine loop_some pe.length (fun i s=>s=(barL b pe i,(i:Int))) (fun i s hi hs=>?_) pe.length 0 _ (by omega) rfl
 subst hs
 by_cases hn:i<pe.length
 ·obtain⟨x,hx⟩:=get_at hn
  have hb:=hp x (List.mem_of_getElem? hx)
  have hlen:=barL_len b pe i
  obtain⟨y,hy⟩:=get_at (l:=barL b pe i) (i:=x.1.toNat) (by omega)
  refine .inr ⟨hn,(barL b pe (i+1),((i+1:Nat):Int)),?_,rfl⟩
  simp only[spec_l09Barrier_o36_l1_b]
  rw[if_pos (by omega),if_pos (by omega),Int.toNat_natCast,hx,obs,if_pos (by omega),obs,if_pos (by omega),hy,obs,w1 (by omega)]
  simp[barL,List.getD_eq_getElem?_getD,hx]
 ·have:i=pe.length:=by omega
  subst this
  refine .inl ?_
  simp only[spec_l09Barrier_o36_l1_b]
  rw[if_neg (by omega)]
theorem sBar (d:DDisk) (q:PRest) (hd:DiskV d):spec_l09Barrier_o19 (d,q)=some (((barD d).1,q),(barD d).2):=by
 obtain⟨a1,a2,a3,a4,a5,a6,a7⟩:=hd
 obtain⟨b,pe,fu,off⟩:=d
 simp only at a1 a2 a3 a4 a5 a6 a7
 have hl:=fun (f:Int)=>sBar_loop b pe f off q (fun x hx=>⟨(a7 x hx).1,(a7 x hx).2.1⟩) (by omega)
 unfold spec_l09Barrier_o19 spec_l09Power_o19 barD NoPow offD decF
 cases off with
 |true=>simp
 |false =>
  by_cases c2:fu=0
  ·simp[c2]
  by_cases c3:fu>0
  ·simp[c2,c3,wrap_in (show -9223372036854775808≤fu-1 by omega) (by omega),hl]
  ·simp[c2,c3,hl]
theorem sBar36 (d:DDisk) (q:PRest) (hd:DiskV d):spec_l09Barrier_o36 (d,q)=some (flat (barD d).1 q (barD d).2):=by
 obtain⟨a1,a2,a3,a4,a5,a6,a7⟩:=hd
 obtain⟨b,pe,fu,off⟩:=d
 simp only at a1 a2 a3 a4 a5 a6 a7
 have hl:=fun (f:Int)=>bar36_loop b pe f off q.1.1 q.1.2.1 q.1.2.2.1 q.1.2.2.2 q.2.1 q.2.2.1 q.2.2.2.2 q.2.2.2.1 (fun x hx=>⟨(a7 x hx).1,(a7 x hx).2.1⟩) (by omega)
 unfold spec_l09Barrier_o36 spec_l09Power_o36 barD NoPow offD decF flat
 cases off with
 |true=>simp[fixLen_self]
 |false =>
  by_cases c2:fu=0
  ·simp[c2,fixLen_self]
  by_cases c3:fu>0
  ·simp[c2,c3,wrap_in (show -9223372036854775808≤fu-1 by omega) (by omega),hl,fixLen_self]
  ·simp[c2,c3,hl,fixLen_self]
theorem appPut (l:List (Int×Str)) (x:Int×Str) (h:l.length<600):appL 24 l (lit [x])=some (l++[x]):=by unfold appL lit;rw[if_pos (by simp[maxRow];omega)]
theorem sWr (d:DDisk) (q:PRest) (k:Int) (x:Str) (hd:DiskV d) (hm:d.2.1.length<600):spec_l09Write_oc8 (d,q) k x=some (((wrD d k x).1,q),(wrD d k x).2):=by
 obtain⟨a1,a2,a3,a4,a5,a6,a7⟩:=hd
 obtain⟨b,pe,fu,off⟩:=d
 simp only at a1 a2 a3 a4 a5 a6 a7 hm
 have ha:=appPut pe (k,x) hm
 unfold spec_l09Write_oc8 spec_l09Power_o19 wrD NoPow offD decF
 cases off with
 |true=>simp
 |false =>
  by_cases c2:fu=0
  ·simp[c2]
  simp only
  rw[if_neg (by simp),if_neg c2,if_neg (by omega)]
  by_cases c3:fu>0
  ·simp[c2,c3,wrap_in (show -9223372036854775808≤fu-1 by omega) (by omega),ha]
  ·simp[c2,c3,ha]
theorem sWr87 (d:DDisk) (q:PRest) (k:Int) (x:Str) (hd:DiskV d) (hm:d.2.1.length<600):spec_l09Write_o87 (d,q) k x=some (flat (wrD d k x).1 q (wrD d k x).2):=by
 obtain⟨a1,a2,a3,a4,a5,a6,a7⟩:=hd
 obtain⟨b,pe,fu,off⟩:=d
 simp only at a1 a2 a3 a4 a5 a6 a7 hm
 have ha:=appPut pe (k,x) hm
 unfold spec_l09Write_o87 spec_l09Power_o36 wrD NoPow offD decF flat
 cases off with
 |true=>simp
 |false =>
  by_cases c2:fu=0
  ·simp[c2]
  simp only
  rw[if_neg (by simp),if_neg c2,if_neg (by omega)]
  by_cases c3:fu>0
  ·simp[c2,c3,wrap_in (show -9223372036854775808≤fu-1 by omega) (by omega),ha,fixLen_self]
  ·simp[c2,c3,ha,fixLen_self]
abbrev D12:=List Str×List (Int×Str)×Int×Bool×Int×Int×Int×Int×Int×Int×List (Int×Str)×List (Int×Str)
def fl12 (d:DDisk) (q:PRest):D12:=(d.1,d.2.1,d.2.2.1,d.2.2.2,q.1.1,q.1.2.1,q.1.2.2.1,q.1.2.2.2,q.2.1,q.2.2.1,q.2.2.2.2,q.2.2.2.1)
def LogOk (n:Nat) (l:List (Int×Str)):Prop:=l.length≤256∧∀ x∈l,0≤x.1∧x.1<n∧x.2.length=64
theorem sPlace_loop {n:Nat} (d:DDisk) (q:PRest) (hd:DInv n 0 d) (hl:LogOk n q.2.2.2.1) :
  spec_l12Place_oba_l1 (flat d q (0:Int))=some (if (wrL d q.2.2.2.1).2=0 then .inl (fl12 (wrL d q.2.2.2.1).1 q) else .inr (flat (wrL d q.2.2.2.1).1 q (wrL d q.2.2.2.1).2)):=by
 have hlen:=hl.1
 unfold spec_l12Place_oba_l1
 refine wr_loop (n:=n) (m:=0) q.2.2.2.1 hl.2 (by omega) (fun d i=>flat d q (i:Int)) (fun d=>(Sum.inl (fl12 d q):D12 ⊕ DFlat Int)) (fun r=>Sum.inr (flat r.1 q r.2)) _ (fun d i x hdi hi hx=>?_) (fun d hdi=>?_) _ 0 d rfl (by omega) hd
 ·have hw:=sWr87 d q x.1 x.2 hdi.1 (by have:=hdi.2.2;omega)
  have hw2:=(show spec_l09Write_o87 ((d.1,d.2.1,d.2.2.1,d.2.2.2),(q.1.1,q.1.2.1,q.1.2.2.1,q.1.2.2.2),q.2.1,q.2.2.1,q.2.2.2.1,q.2.2.2.2) x.1 x.2=_ from hw)
  have c1:(i:Int)<(q.2.2.2.1.length:Int):=by omega
  have c2:(0:Int)≤i:=by omega
  have c3:IntKind.i64.wrap ((i:Int)+1)=(i:Int)+1:=w1 (by omega)
  simp only[spec_l12Place_oba_l1_b,flat,c1,c2,and_self,if_true,Int.toNat_natCast,hx,obs]
  simp only[flat] at hw2
  rw[hw2]
  by_cases hz:(wrD d x.1 x.2).2=0
  ·simp only[obs,if_true,fixLen_self,hz,not_true_eq_false,if_false,c3]
   simp
  ·simp only[obs,if_true,fixLen_self,hz,not_false_eq_true,if_false]
 ·simp[spec_l12Place_oba_l1_b,flat,fl12]
theorem sPlace {n m:Nat} (d:DDisk) (q:PRest) (hd:DInv n m d) (hl:LogOk n q.2.2.2.1) :
  spec_l12Place_oba (d,q)=some (flat (andD (barD d) fun d=>andD (wrL d q.2.2.2.1) barD).1 q (andD (barD d) fun d=>andD (wrL d q.2.2.2.1) barD).2):=by
 unfold spec_l12Place_oba
 rw[sBar36 d q hd.1,obs]
 simp only[flat,if_true,fixLen_self]
 rcases barD_inv hd with ⟨h0,hi⟩ |⟨h0,hi⟩
 ·have ha:∀ f:DDisk→DDisk×Int,andD (barD d) f=f (barD d).1:=fun f=>if_pos h0
  have h:=sPlace_loop (barD d).1 q hi hl
  simp only[flat] at h
  rw[if_neg (by simpa using h0),ha,h,obs]
  obtain⟨_,hj⟩:=wrL_inv q.2.2.2.1 0 (barD d).1 hi hl.2 (by have:=hl.1;omega)
  by_cases hz:(wrL (barD d).1 q.2.2.2.1).2=0
  ·rw[if_pos hz,show andD (wrL (barD d).1 q.2.2.2.1) barD=barD (wrL (barD d).1 q.2.2.2.1).1 from if_pos hz]
   simp only[Sum.elim_inl,fl12]
   generalize (wrL (barD d).1 q.2.2.2.1).1=e at hj
   rw[show spec_l09Barrier_o36 ((e.1,e.2.1,e.2.2.1,e.2.2.2),(q.1.1,q.1.2.1,q.1.2.2.1,q.1.2.2.2),q.2.1,q.2.2.1,q.2.2.2.1,q.2.2.2.2)=_ from sBar36 e q hj.1,obs]
   simp only[flat,if_true,fixLen_self]
  ·rw[if_neg hz,show andD (wrL (barD d).1 q.2.2.2.1) barD=wrL (barD d).1 q.2.2.2.1 from if_neg hz]
   simp only[Sum.elim_inr,flat]
 ·have hne:¬(barD d).2=0:=by omega
  rw[if_pos hne,show (andD (barD d) fun d=>andD (wrL d q.2.2.2.1) barD)=barD d from if_neg hne]
theorem sSuper {n m:Nat} (d:DDisk) (q:PRest) (s:DSuper) (hd:DInv n m d) (hm:m<600) (hn:16≤n) (hs:SuperV s) :
  spec_l12Super_o35 (d,q) s.1 s.2.1 s.2.2.1 s.2.2.2=some (((andD (wrD d (Int.tmod s.2.2.2 2) (encS s)) barD).1,q),(andD (wrD d (Int.tmod s.2.2.2 2) (encS s)) barD).2):=by
 have ht:0≤Int.tmod s.2.2.2 2∧Int.tmod s.2.2.2 2≤1:=by rw[Int.tmod_eq_emod_of_nonneg hs.2.2.2.2.2.2.2.1];omega
 unfold spec_l12Super_o35
 rw[show spec_l10Encode (s.1,s.2.1,s.2.2.1,s.2.2.2)=_ from l10Encode_out s hs.sin,obs,sWr d q _ _ hd.1 (by have:=hd.2.2;omega),obs]
 simp only
 obtain⟨_,hj⟩:=wrD_inv (k:=Int.tmod s.2.2.2 2) (b:=encS s) hd ht.1 (by omega) (encS_length s) hm
 by_cases hz:(wrD d (Int.tmod s.2.2.2 2) (encS s)).2=0
 ·rw[if_neg (by simpa using hz),sBar _ q hj.1,obs,show andD (wrD d (Int.tmod s.2.2.2 2) (encS s)) barD=barD (wrD d (Int.tmod s.2.2.2 2) (encS s)).1 from if_pos hz]
 ·rw[if_pos hz,show andD (wrD d (Int.tmod s.2.2.2 2) (encS s)) barD=wrD d (Int.tmod s.2.2.2 2) (encS s) from if_neg hz]
theorem zero_out:spec_l09Zero=some zB:=by
 unfold spec_l09Zero
 rw[show mkL 1 64 64 (⟨0⟩:Bt)=some (List.replicate 64 ⟨0⟩) from mkL_ok 1 64 (⟨0⟩:Bt) (by decide) (by decide)]
 rfl
theorem sClear {n:Nat} (d:DDisk) (q:PRest) (N:Nat) (s:DSuper) (hs:s.2.1=N) (hd:DInv n 0 d) (hN:N+2≤n) (h64:N≤64) :
  spec_l12Clear_o35 (d,q) s.1 s.2.1 s.2.2.1 s.2.2.2=some (((andD (clrD d N 2) barD).1,q),(andD (clrD d N 2) barD).2):=by
 unfold spec_l12Clear_o35 spec_l12Clear_o35_l1
 have hA:spec_l10Area (s.1,s.2.1,s.2.2.1,s.2.2.2)=some (2+(N:Int)):=by
  unfold spec_l10Area
  simp only[hs]
  rw[wrap_in (by omega) (by omega)]
 have hn:=hd.1.2.1
 have hdn:=hd.2.1
 have hloop:=clr_loop (n:=n) N hN (by omega) (fun d i=>(((d,q):DPager),2+(i:Int))) (fun d=>Sum.inl (d,q)) (fun r=>Sum.inr ((r.1,q),r.2)) (fun s'=>spec_l12Clear_o35_l1_b (s.1,s.2.1,s.2.2.1,s.2.2.2) s'.1 s'.2)
  (fun d i hdi hi=>by
   obtain⟨r1,r2⟩:=readD_out d (2+i) hdi.1 (by omega) (by have:=hdi.2.1;omega)
   simp only[spec_l12Clear_o35_l1_b]
   rw[hA,obs,if_pos (by omega),l09Read_out d _ (by have:=hdi.2.2;omega),r1,obs,zero_out,obs]
   by_cases hz:rdD d (2+i)=zB
   ·rw[if_pos hz,if_pos hz,wrap_in (by omega) (by omega)]
    simp only[Int.natCast_add,Int.natCast_one,Int.add_assoc]
   ·rw[if_neg hz,if_neg hz,obs,sWr d q _ _ hdi.1 (by have:=hdi.2.2;omega),obs]
    simp only
    by_cases hc:(wrD d (2+i) zB).2=0
    ·rw[if_neg (by simpa using hc),if_pos hc,wrap_in (by omega) (by omega)]
     simp only[Int.natCast_add,Int.natCast_one,Int.add_assoc]
    ·rw[if_pos hc,if_neg hc])
  (fun d hdi=>by
   simp only[spec_l12Clear_o35_l1_b]
   rw[hA,obs,if_neg (by omega)]) N 0 d (by omega) (by omega) hd
 simp only[Int.natCast_zero,Int.add_zero] at hloop
 rw[hloop,obs]
 obtain⟨_,hj⟩:=clrD_inv N 0 2 d hd (by omega) (by omega) (by omega)
 by_cases hz:(clrD d N 2).2=0
 ·rw[if_pos hz,show andD (clrD d N 2) barD=barD (clrD d N 2).1 from if_pos hz]
  simp only[Sum.elim_inl]
  rw[sBar _ q hj.1,obs]
 ·rw[if_neg hz,show andD (clrD d N 2) barD=clrD d N 2 from if_neg hz]
  simp only[Sum.elim_inr]
theorem andD_z {r:DDisk×Int} {f:DDisk→DDisk×Int} (h:r.2=0):andD r f=f r.1:=if_pos h
theorem andD_n {r:DDisk×Int} {f:DDisk→DDisk×Int} (h:¬r.2=0):andD r f=r:=if_neg h
theorem andD_assoc (r:DDisk×Int) (f g:DDisk→DDisk×Int):andD (andD r f) g=andD r fun d=>andD (f d) g:=by
 by_cases h:r.2=0
 ·rw[andD_z h,andD_z h]
 ·rw[andD_n h,andD_n h,andD_n h]
def nxS (q:PRest):DSuper:=(q.1.1,q.1.2.1,q.2.1,q.1.2.2.2+1)
def ckR (d:DDisk) (q:PRest):DDisk×Int:=ckD d q.2.2.2.1 (nxS q) q.1.2.1.toNat
theorem pv_inv {d:DDisk} {q:PRest} (hp:PagerV (d,q)) (ht:¬q.1.2.2.2=1000000000000):DInv d.1.length 600 d∧LogOk d.1.length q.2.2.2.1∧SuperV (nxS q)∧(0≤q.1.2.1∧q.1.2.1≤64∧q.1.2.1+2≤(d.1.length:Int))∧q.1.2.2.2<1000000000000∧16≤d.1.length:=by
 obtain⟨hd,_,hs,hl,hq,_,hP1,_,hW1,_,_⟩:=hp
 have hs':=hs
 obtain⟨v1,v2,v3,v4,v5,v6,v7,v8,v9⟩:=hs'
 simp only at hl hq hP1 hW1 v1 v2 v3 v4 v5 v6 v7 v8 v9
 refine⟨⟨hd,rfl,by have h600:(d.2.1.length:Int)≤600:=hd.2.2.1;omega⟩,⟨hP1.1,fun x hx=>?_⟩,⟨v1,v2,v3,v4,v5,by simp only[nxS];omega,by simp only[nxS];omega,by simp only[nxS];omega,by simp only[nxS];omega⟩,by omega,by omega,by have h16:(16:Int)≤d.1.length:=hd.1;omega⟩
 obtain⟨i,hi,he⟩:=List.mem_iff_getElem.1 hx
 have hp:=hP1.2 i hi x (by rw[List.getElem?_eq_getElem hi,he])
 have hw:=hW1 x hx
 exact⟨hp.1,by have hw2:x.1≤q.1.1-1:=hw.2;omega,hp.2.2.1⟩
def endK (q:PRest) (r:DDisk×Int):DPager×Int:=if r.2=0 then ((r.1,nxS q,q.2.1,0,[],q.2.2.2.2),0) else ((r.1,q),r.2)
theorem sCheck {d:DDisk} {q:PRest} (hp:PagerV (d,q)) (ht:¬q.1.2.2.2=1000000000000):spec_l12Check_o19 (d,q)=some (endK q (ckR d q)):=by
 obtain⟨hi,hl,hs,hN,hlt,h16⟩:=pv_inv hp ht
 have hq0:0≤q.1.2.2.2:=hp.2.2.1.2.2.2.2.2.2.2.1
 have hck:ckR d q=andD (andD (barD d) fun d=>andD (wrL d q.2.2.2.1) barD) fun d=>andD (andD (wrD d (Int.tmod (nxS q).2.2.2 2) (encS (nxS q))) barD) fun d=>andD (clrD d q.1.2.1.toNat 2) barD:=by
  unfold ckR ckD;simp only[andD_assoc]
 unfold spec_l12Check_o19
 rw[if_neg (by simp only;omega),sPlace d q hi hl,obs]
 simp only[flat,if_true,fixLen_self]
 have iA:(andD (barD d) fun d=>andD (wrL d q.2.2.2.1) barD).2=0→DInv d.1.length 0 (andD (barD d) fun d=>andD (wrL d q.2.2.2.1) barD).1:=fun h=>by
  rcases barD_inv hi with ⟨a,b⟩ |⟨a,b⟩
  ·rw[andD_z a] at h ⊢
   have w:=wrL_inv q.2.2.2.1 0 (barD d).1 b hl.2 (by have:=hl.1;omega)
   by_cases hz:(wrL (barD d).1 q.2.2.2.1).2=0
   ·rw[andD_z hz] at h ⊢
    rcases barD_inv w.2 with ⟨a2,b2⟩ |⟨a2,b2⟩
    ·exact b2
    ·omega
   ·rw[andD_n hz] at h;exact absurd h hz
  ·rw[andD_n (by omega)] at h;omega
 rw[hck]
 generalize (andD (barD d) fun d=>andD (wrL d q.2.2.2.1) barD)=A at iA
 by_cases hA:A.2=0
 case neg =>
  rw[if_pos hA,andD_n hA]
  unfold endK;rw[if_neg hA]
 rw[if_neg (by simpa using hA),andD_z hA,wrap_in (n:=q.1.2.2.2+1) (by omega) (by omega)]
 have iA:=iA hA
 rw[show spec_l12Super_o35 ((A.1.1,A.1.2.1,A.1.2.2.1,A.1.2.2.2),(q.1.1,q.1.2.1,q.1.2.2.1,q.1.2.2.2),q.2.1,q.2.2.1,q.2.2.2.1,q.2.2.2.2) q.1.1 q.1.2.1 q.2.1 (q.1.2.2.2+1)=_ from sSuper A.1 q (nxS q) iA (by omega) h16 hs,obs]
 simp only
 have ht2:0≤Int.tmod (nxS q).2.2.2 2∧Int.tmod (nxS q).2.2.2 2≤1:=by rw[Int.tmod_eq_emod_of_nonneg hs.2.2.2.2.2.2.2.1];omega
 have w2:=wrD_inv (k:=Int.tmod (nxS q).2.2.2 2) (b:=encS (nxS q)) iA ht2.1 (by omega) (encS_length _) (by omega)
 have iB:(andD (wrD A.1 (Int.tmod (nxS q).2.2.2 2) (encS (nxS q))) barD).2=0→DInv d.1.length 0 (andD (wrD A.1 (Int.tmod (nxS q).2.2.2 2) (encS (nxS q))) barD).1:=fun h=>by
  by_cases hz:(wrD A.1 (Int.tmod (nxS q).2.2.2 2) (encS (nxS q))).2=0
  ·rw[andD_z hz] at h ⊢
   rcases barD_inv w2.2 with ⟨a2,b2⟩ |⟨a2,b2⟩
   ·exact b2
   ·omega
  ·rw[andD_n hz] at h;exact absurd h hz
 generalize (andD (wrD A.1 (Int.tmod (nxS q).2.2.2 2) (encS (nxS q))) barD)=B at iB
 by_cases hB:B.2=0
 case neg =>
  rw[if_pos hB,andD_n hB]
  unfold endK;rw[if_neg hB]
 rw[if_neg (by simpa using hB),andD_z hB]
 rw[sClear B.1 q q.1.2.1.toNat q.1 (by omega) (iB hB) (by omega) (by omega),obs]
 generalize andD (clrD B.1 q.1.2.1.toNat 2) barD=C
 by_cases hC:C.2=0
 ·rw[if_neg (by simpa using hC)]
  unfold endK;rw[if_pos hC];rfl
 ·rw[if_pos hC]
  unfold endK;rw[if_neg hC]
theorem rdD_wr {d:DDisk} {k:Int} {b:Str} (h:(wrD d k b).2=0) (j:Int):rdD (wrD d k b).1 j=if k=j then b else rdD d j:=by
 unfold wrD at h ⊢
 by_cases hn:NoPow d
 ·rw[if_pos hn] at h;simp at h
 ·rw[if_neg hn]
  unfold rdD
  simp only[List.reverse_append,List.reverse_singleton,List.singleton_append,List.find?_cons]
  by_cases hk:k=j
  ·rw[if_pos hk]
   simp[hk]
  ·rw[if_neg hk]
   simp[hk]
theorem barL_get (b:List Str) (p:List (Int×Str)) (k:Int) (h0:0≤k) (h1:k<(b.length:Int)) (hp:∀ x∈p,0≤x.1):∀ i,i≤p.length→(barL b p i).getD k.toNat []=match (p.take i).reverse.find? (fun p=>decide (p.1=k)) with
  |some p=>p.2
  |none=>b.getD k.toNat []
 |0,_=>by simp[barL]
 |i+1,hi=>by
  obtain⟨x,hx⟩:=get_at (l:=p) (i:=i) (by omega)
  have hx0:=hp x (List.mem_of_getElem? hx)
  have hlen:=barL_len b p i
  have ih:=barL_get b p k h0 h1 hp i (by omega)
  simp only[barL]
  rw[List.take_add_one,hx]
  have hg:p.getD i (0,[])=x:=by rw[List.getD_eq_getElem?_getD,hx];rfl
  rw[hg]
  simp only[Option.toList_some,List.reverse_append,List.reverse_singleton,List.singleton_append,List.find?_cons]
  by_cases hk:x.1=k
  ·rw[hk]
   simp only[decide_true]
   rw[List.getD_eq_getElem?_getD,List.getElem?_set_self (by omega)]
   rfl
  ·have:¬x.1.toNat=k.toNat:=by omega
   simp only[hk,decide_false]
   rw[List.getD_eq_getElem?_getD,List.getElem?_set_ne this,← List.getD_eq_getElem?_getD,ih]
theorem rdD_bar {d:DDisk} (hd:DiskV d) (h:(barD d).2=0) (j:Int) (h0:0≤j) (h1:j<(d.1.length:Int)):rdD (barD d).1 j=rdD d j:=by
 unfold barD at h ⊢
 by_cases hn:NoPow d
 ·rw[if_pos hn] at h;simp at h
 ·rw[if_neg hn]
  have:=barL_get d.1 d.2.1 j h0 h1 (fun x hx=>(hd.2.2.2.2.2.2 x hx).1) d.2.1.length (Nat.le_refl _)
  rw[List.take_of_length_le (Nat.le_refl _)] at this
  unfold rdD
  simp only[List.reverse_nil,List.find?_nil]
  exact this
theorem andD_0 {r:DDisk×Int} {f:DDisk→DDisk×Int} (h:(andD r f).2=0):r.2=0∧(f r.1).2=0∧andD r f=f r.1:=by
 by_cases hr:r.2=0
 ·rw[andD_z hr] at h ⊢;exact⟨hr,h,rfl⟩
 ·rw[andD_n hr] at h;exact absurd h hr
theorem rdD_wrL (j:Int):∀ (l:List (Int×Str)) (d:DDisk),l.Pairwise (fun x y=>x.1<y.1)→(wrL d l).2=0→rdD (wrL d l).1 j=match pgF l j with |some x=>x.2 |none=>rdD d j
 |[],d,_,_=>by simp[wrL,pgF]
 |x::l,d,hp,h=>by
  simp only[wrL] at h ⊢
  obtain⟨z1,z2,z3⟩:=andD_0 h
  rw[z3]
  obtain⟨hx,hl⟩:=List.pairwise_cons.1 hp
  have ih:=rdD_wrL j l (wrD d x.1 x.2).1 hl z2
  rw[ih]
  simp only[pgF,List.find?_cons]
  by_cases hk:x.1=j
  ·simp only[hk,decide_true]
   have:l.find? (fun p=>decide (p.1=j))=none:=by
    rw[List.find?_eq_none]
    intro y hy
    have:=hx y hy
    simp;omega
   rw[this]
   simp only
   rw[rdD_wr (by rw[← hk];exact z1),if_pos rfl]
  ·simp only[hk,decide_false]
   rw[rdD_wr z1,if_neg hk]
theorem rdD_clr (j:Int):∀ (n:Nat) (k:Int) (d:DDisk),(clrD d n k).2=0→j<k∨k+n≤j→rdD (clrD d n k).1 j=rdD d j
 |0,k,d,_,_=>rfl
 |n+1,k,d,h,hj=>by
  simp only[clrD] at h ⊢
  by_cases hz:rdD d k=zB
  ·rw[if_pos hz] at h ⊢
   exact rdD_clr j n (k+1) d h (by omega)
  ·rw[if_neg hz] at h ⊢
   obtain⟨z1,z2,z3⟩:=andD_0 h
   rw[z3,rdD_clr j n (k+1) _ z2 (by omega),rdD_wr z1,if_neg (by omega)]
theorem rdD_ck {d:DDisk} {q:PRest} (hp:PagerV (d,q)) (ht:¬q.1.2.2.2=1000000000000) (hz:(ckR d q).2=0) (j:Int) (h0:2+q.1.2.1≤j) (h1:j<(d.1.length:Int)) :
  rdD (ckR d q).1 j=comP (d,q) j∧DInv d.1.length 0 (ckR d q).1:=by
 obtain⟨hi,hl,hs,hN,hlt,h16⟩:=pv_inv hp ht
 have b0:∀ {m:Nat} {e:DDisk},DInv d.1.length m e→(barD e).2=0→DInv d.1.length 0 (barD e).1:=fun {m e} he h=>by
  rcases barD_inv he with ⟨a,b⟩ |⟨a,b⟩
  ·exact b
  ·omega
 have rb:∀ {m:Nat} {e:DDisk},DInv d.1.length m e→(barD e).2=0→rdD (barD e).1 j=rdD e j:=fun {m e} he h=>rdD_bar he.1 h j (by omega) (by rw[he.2.1];exact h1)
 have ht2:0≤Int.tmod (nxS q).2.2.2 2∧Int.tmod (nxS q).2.2.2 2≤1:=by rw[Int.tmod_eq_emod_of_nonneg hs.2.2.2.2.2.2.2.1];omega
 unfold ckR ckD at hz ⊢
 obtain⟨z1,hz,e1⟩:=andD_0 hz
 obtain⟨z2,hz,e2⟩:=andD_0 hz
 obtain⟨z3,hz,e3⟩:=andD_0 hz
 obtain⟨z4,hz,e4⟩:=andD_0 hz
 obtain⟨z5,hz,e5⟩:=andD_0 hz
 obtain⟨z6,hz,e6⟩:=andD_0 hz
 rw[e1,e2,e3,e4,e5,e6]
 have w:=wrL_inv q.2.2.2.1 0 (barD d).1 (b0 hi z1) hl.2 (by have:=hl.1;omega)
 have w2:=wrD_inv (k:=Int.tmod (nxS q).2.2.2 2) (b:=encS (nxS q)) (b0 w.2 z3) ht2.1 (by omega) (encS_length _) (by omega)
 have w3:=clrD_inv q.1.2.1.toNat 0 2 _ (b0 w2.2 z5) (by omega) (by omega) (by omega)
 refine⟨?_,b0 w3.2 hz⟩
 have hpw:q.2.2.2.1.Pairwise (fun x y=>x.1<y.1):=((pagesV_iff _).1 hp.2.2.2.2.2.2.1).2.2
 rw[rb w3.2 hz,rdD_clr j _ _ _ z6 (by omega),rb w2.2 z5,rdD_wr z4,if_neg (by omega),rb w.2 z3,rdD_wrL j _ _ hpw z2,rb hi z1]
 rfl
end Go.Proofs.TM
