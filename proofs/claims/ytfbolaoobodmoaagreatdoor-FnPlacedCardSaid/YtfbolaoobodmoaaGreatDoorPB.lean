import Derived.Test.YtfbolaoobodmoaaGreatDoorPA
namespace Go.Proofs.TM
open Go Go.Proofs
set_option maxHeartbeats 1000000
def barL (b:List Str) (p:List (Int × Str)):Nat → List Str
 | 0=>b
 | i + 1=>(barL b p i).set (p.getD i (0,[])).1.toNat (p.getD i (0,[])).2
theorem barL_len (b:List Str) (p:List (Int × Str)):∀ i,(barL b p i).length = b.length
 | 0=>rfl
 | i + 1=>by simp [barL,barL_len b p i]
theorem barL_64 (b:List Str) (p:List (Int × Str)) (hb:∀ x ∈ b,x.length = 64) (hp:∀ x ∈ p,x.2.length = 64):∀ i,i ≤ p.length → ∀ x ∈ barL b p i,x.length = 64
 | 0,_=>hb
 | i + 1,hi=>fun x hx=>by
  simp only [barL] at hx
  rcases List.mem_or_eq_of_mem_set hx with h | h
  ·exact barL_64 b p hb hp i (by omega) x h
  ·obtain ⟨y,hy⟩:=get_at (show i < p.length by omega)
   subst h
   simp only [List.getD_eq_getElem?_getD,hy,Option.getD_some]
   exact hp y (List.mem_of_getElem? hy)
def decF (f:Int):Int:=if f > 0 then f - 1 else f
def offD (d:DDisk):DDisk:=(d.1,d.2.1,d.2.2.1,true)
def NoPow (d:DDisk):Prop:=d.2.2.2 = true ∨ d.2.2.1 = 0
instance (d:DDisk):Decidable (NoPow d):=inferInstanceAs (Decidable (_ ∨ _))
def barD (d:DDisk):DDisk × Int:=if NoPow d then (offD d,13) else ((barL d.1 d.2.1 d.2.1.length,[],decF d.2.2.1,d.2.2.2),0)
def wrD (d:DDisk) (k:Int) (b:Str):DDisk × Int:=if NoPow d then (offD d,13) else ((d.1,d.2.1 ++ [(k,b)],decF d.2.2.1,d.2.2.2),0)
def andD (r:DDisk × Int) (f:DDisk → DDisk × Int):DDisk × Int:=if r.2 = 0 then f r.1 else r
def wrL:DDisk → List (Int × Str) → DDisk × Int
 | d,[]=>(d,0)
 | d,x::l=>andD (wrD d x.1 x.2) fun e=>wrL e l
def zB:Str:=List.replicate 64 0
def clrD:DDisk → Nat → Int → DDisk × Int
 | d,0,_=>(d,0)
 | d,n + 1,k=>if rdD d k = zB then clrD d n (k + 1) else andD (wrD d k zB) fun e=>clrD e n (k + 1)
def ckD (d:DDisk) (l:List (Int × Str)) (s:DSuper) (n:Nat):DDisk × Int :=
 andD (barD d) fun d=>andD (wrL d l) fun d=>andD (barD d) fun d=>andD (wrD d (Int.tmod s.2.2.2 2) (encS s)) fun d=>andD (barD d) fun d=>andD (clrD d n 2) fun d=>barD d
def DInv (n m:Nat) (d:DDisk):Prop:=DiskV d ∧ d.1.length = n ∧ d.2.1.length ≤ m
theorem decF_in {f:Int} (h0:-1 ≤ f) (h1:f ≤ 100000):-1 ≤ decF f ∧ decF f ≤ 100000:=by unfold decF; split <;> omega
theorem barD_inv {n m:Nat} {d:DDisk} (h:DInv n m d):((barD d).2 = 0 ∧ DInv n 0 (barD d).1) ∨ ((barD d).2 = 13 ∧ DInv n m (barD d).1):=by
 obtain ⟨⟨a1,a2,a3,a4,a5,a6,a7⟩,h2,h3⟩:=h
 unfold barD
 split
 ·exact .inr ⟨rfl,⟨a1,a2,a3,a4,a5,a6,a7⟩,h2,h3⟩
 ·have:=decF_in a4 a5
  exact .inl ⟨rfl,⟨by simp only [barL_len]; exact a1,by simp only [barL_len]; exact a2,by simp,this.1,this.2,fun x hx=>barL_64 _ _ a6 (fun x hx=>(a7 x hx).2.2) _ (Nat.le_refl _) x hx,by simp⟩,by simp only [barL_len]; exact h2,by simp⟩
theorem wrD_inv {n m:Nat} {d:DDisk} (h:DInv n m d) {k:Int} {b:Str} (h0:0 ≤ k) (h1:k < n) (hb:b.length = 64) (hm:m < 600):((wrD d k b).2 = 0 ∨ (wrD d k b).2 = 13) ∧ DInv n (m + 1) (wrD d k b).1:=by
 obtain ⟨⟨a1,a2,a3,a4,a5,a6,a7⟩,h2,h3⟩:=h
 unfold wrD
 split
 ·exact ⟨.inr rfl,⟨a1,a2,a3,a4,a5,a6,a7⟩,h2,by show d.2.1.length ≤ m + 1; omega⟩
 ·have:=decF_in a4 a5
  refine ⟨.inl rfl,⟨a1,a2,by simp only [List.length_append,List.length_singleton]; omega,this.1,this.2,a6,fun x hx=>?_⟩,h2,by simp only [List.length_append,List.length_singleton]; omega⟩
  rcases List.mem_append.1 hx with h | h
  ·exact a7 x h
  ·simp only [List.mem_singleton] at h; subst h; exact ⟨h0,by simp only; omega,hb⟩
theorem wrL_inv {n:Nat}:∀ (l:List (Int × Str)) (m:Nat) (d:DDisk),DInv n m d → (∀ x ∈ l,0 ≤ x.1 ∧ x.1 < n ∧ x.2.length = 64) → m + l.length ≤ 600 → ((wrL d l).2 = 0 ∨ (wrL d l).2 = 13) ∧ DInv n (m + l.length) (wrL d l).1
 | [],m,d,h,_,_=>⟨.inl rfl,h⟩
 | x::l,m,d,h,hl,hm=>by
  have hx:=hl x (by simp)
  simp only [List.length_cons] at hm ⊢
  obtain ⟨h1,h2⟩:=wrD_inv h hx.1 hx.2.1 hx.2.2 (by omega)
  simp only [wrL,andD]
  split
  ·have:=wrL_inv l (m + 1) _ h2 (fun y hy=>hl y (by simp [hy])) (by omega)
   rw [show m + 1 + l.length = m + (l.length + 1) by omega] at this
   exact this
  ·exact ⟨h1,h2.1,h2.2.1,by have:=h2.2.2; omega⟩
theorem zB_len:zB.length = 64:=by simp [zB]
theorem clrD_inv {n:Nat}:∀ (c m:Nat) (k:Int) (d:DDisk),DInv n m d → 0 ≤ k → k + c ≤ n → m + c ≤ 600 → ((clrD d c k).2 = 0 ∨ (clrD d c k).2 = 13) ∧ DInv n (m + c) (clrD d c k).1
 | 0,m,k,d,h,_,_,_=>⟨.inl rfl,h⟩
 | c + 1,m,k,d,h,h0,h1,hm=>by
  simp only [clrD]
  split
  ·obtain ⟨g1,g2⟩:=clrD_inv c m (k + 1) d h (by omega) (by omega) (by omega)
   exact ⟨g1,g2.1,g2.2.1,by have:=g2.2.2; omega⟩
  ·obtain ⟨g1,g2⟩:=wrD_inv h h0 (by omega) zB_len (by omega)
   simp only [andD]
   split
   ·have:=clrD_inv c (m + 1) (k + 1) _ g2 (by omega) (by omega) (by omega)
    rw [show m + 1 + c = m + (c + 1) by omega] at this
    exact this
   ·exact ⟨g1,g2.1,g2.2.1,by have:=g2.2.2; omega⟩
theorem wr_loop {σ ρ:Type} {n m:Nat} (l:List (Int × Str)) (hl:∀ x ∈ l,0 ≤ x.1 ∧ x.1 < n ∧ x.2.length = 64) (hm:m + l.length ≤ 600) (E:DDisk → Nat → σ) (F:DDisk → ρ) (G:DDisk × Int → ρ) (f:σ → Option (σ ⊕ ρ))
  (h1:∀ (d:DDisk) (i:Nat) (x:Int × Str),DInv n (m + i) d → i < l.length → l[i]? = some x → f (E d i) = some (if (wrD d x.1 x.2).2 = 0 then .inl (E (wrD d x.1 x.2).1 (i + 1)) else .inr (G (wrD d x.1 x.2))))
  (h2:∀ d,DInv n (m + l.length) d → f (E d l.length) = some (.inr (F d))):∀ (c i:Nat) (d:DDisk),l.length - i = c → i ≤ l.length → DInv n (m + i) d → loopO f (E d i) = some (if (wrL d (l.drop i)).2 = 0 then F (wrL d (l.drop i)).1 else G (wrL d (l.drop i)))
 | 0,i,d,hc,hi,hd=>by
  have:i = l.length:=by omega
  subst this
  rw [loopO_inr (f:=f) (h2 d hd),List.drop_of_length_le (Nat.le_refl _)]; rfl
 | c + 1,i,d,hc,hi,hd=>by
  obtain ⟨x,hx⟩:=get_at (show i < l.length by omega)
  have hx2:=hl x (List.mem_of_getElem? hx)
  have hs:=h1 d i x hd (by omega) hx
  have hdr:l.drop i = x::l.drop (i + 1):=by
   obtain ⟨h3,h4⟩:=List.getElem?_eq_some_iff.1 hx
   rw [← h4]; exact List.drop_eq_getElem_cons h3
  rw [hdr]
  simp only [wrL,andD]
  by_cases hz:(wrD d x.1 x.2).2 = 0
  ·rw [if_pos hz] at hs
   rw [loopO_inl (f:=f) hs,if_pos hz]
   exact wr_loop l hl hm E F G f h1 h2 c (i + 1) _ (by omega) (by omega) (wrD_inv hd hx2.1 hx2.2.1 hx2.2.2 (by omega)).2
  ·rw [if_neg hz] at hs
   rw [loopO_inr (f:=f) hs,if_neg hz,if_neg hz]
theorem clr_loop {σ ρ:Type} {n:Nat} (N:Nat) (hN:N + 2 ≤ n) (h64:N ≤ 600) (E:DDisk → Nat → σ) (F:DDisk → ρ) (G:DDisk × Int → ρ) (f:σ → Option (σ ⊕ ρ))
  (h1:∀ (d:DDisk) (i:Nat),DInv n i d → i < N → f (E d i) = some (if rdD d (2 + i) = zB then .inl (E d (i + 1)) else if (wrD d (2 + i) zB).2 = 0 then .inl (E (wrD d (2 + i) zB).1 (i + 1)) else .inr (G (wrD d (2 + i) zB))))
  (h2:∀ d,DInv n N d → f (E d N) = some (.inr (F d))):∀ (c i:Nat) (d:DDisk),N - i = c → i ≤ N → DInv n i d → loopO f (E d i) = some (if (clrD d c (2 + i)).2 = 0 then F (clrD d c (2 + i)).1 else G (clrD d c (2 + i)))
 | 0,i,d,hc,hi,hd=>by
  have:i = N:=by omega
  subst this
  rw [loopO_inr (f:=f) (h2 d hd)]; rfl
 | c + 1,i,d,hc,hi,hd=>by
  have hs:=h1 d i hd (by omega)
  have hk:(2:Int) + (i:Int) + 1 = 2 + ((i + 1:Nat):Int):=by omega
  by_cases hr:rdD d (2 + i) = zB
  ·have hcl:clrD d (c + 1) (2 + i) = clrD d c (2 + ((i + 1:Nat):Int)):=by rw [← hk]; simp only [clrD,if_pos hr]
   rw [hcl]
   rw [if_pos hr] at hs
   rw [loopO_inl (f:=f) hs]
   exact clr_loop N hN h64 E F G f h1 h2 c (i + 1) d (by omega) (by omega) ⟨hd.1,hd.2.1,by have:=hd.2.2; omega⟩
  ·have hcl:clrD d (c + 1) (2 + i) = andD (wrD d (2 + i) zB) fun e=>clrD e c (2 + ((i + 1:Nat):Int)):=by rw [← hk]; simp only [clrD,if_neg hr]
   rw [hcl]
   rw [if_neg hr] at hs
   by_cases hz:(wrD d (2 + i) zB).2 = 0
   ·rw [if_pos hz] at hs
    rw [loopO_inl (f:=f) hs,show andD (wrD d (2 + i) zB) (fun e=>clrD e c (2 + ((i + 1:Nat):Int))) = clrD (wrD d (2 + i) zB).1 c (2 + ((i + 1:Nat):Int)) from if_pos hz]
    exact clr_loop N hN h64 E F G f h1 h2 c (i + 1) _ (by omega) (by omega) (wrD_inv hd (by omega) (by omega) zB_len (by omega)).2
   ·rw [if_neg hz] at hs
    rw [loopO_inr (f:=f) hs,show andD (wrD d (2 + i) zB) (fun e=>clrD e c (2 + ((i + 1:Nat):Int))) = wrD d (2 + i) zB from if_neg hz,if_neg hz]
abbrev PRest:=DSuper × Int × Int × List (Int × Str) × List (Int × Str)
abbrev DFlat (γ:Type):=List Str × List (Int × Str) × Int × Bool × Int × Int × Int × Int × Int × Int × List (Int × Str) × List (Int × Str) × γ
def flat {γ:Type} (d:DDisk) (q:PRest) (c:γ):DFlat γ:=(d.1,d.2.1,d.2.2.1,d.2.2.2,q.1.1,q.1.2.1,q.1.2.2.1,q.1.2.2.2,q.2.1,q.2.2.1,q.2.2.2.2,q.2.2.2.1,c)
theorem fixLen_self {α:Type} (l:List α):fixLen l l = l:=fixLen_eq rfl
theorem sBar_loop (b:List Str) (pe:List (Int × Str)) (fu:Int) (off:Bool) (q:PRest) (hp:∀ x ∈ pe,0 ≤ x.1 ∧ x.1 ≤ (b.length:Int) - 1) (hl:pe.length ≤ 1048576) :
  spec_l09Barrier_o19_l1 (((b,pe,fu,off),q),0) = some ((barL b pe pe.length,pe,fu,off),q):=by
 unfold spec_l09Barrier_o19_l1
 refine loop_some pe.length (fun i s=>s = (((barL b pe i,pe,fu,off),q),(i:Int))) (fun i s hi hs=>?_) pe.length 0 _ (by omega) rfl
 subst hs
 by_cases hn:i < pe.length
 ·obtain ⟨x,hx⟩:=get_at hn
  have hb:=hp x (List.mem_of_getElem? hx)
  have hlen:=barL_len b pe i
  obtain ⟨y,hy⟩:=get_at (l:=barL b pe i) (i:=x.1.toNat) (by omega)
  refine .inr ⟨hn,(((barL b pe (i + 1),pe,fu,off),q),((i + 1:Nat):Int)),?_,rfl⟩
  simp only [spec_l09Barrier_o19_l1_b]
  rw [if_pos (by omega),if_pos (by omega),Int.toNat_natCast,hx,obs,if_pos (by omega),obs,if_pos (by omega),hy,obs,w1 (by omega)]
  simp [barL,List.getD_eq_getElem?_getD,hx]
 ·have:i = pe.length:=by omega
  subst this
  refine .inl ?_
  simp only [spec_l09Barrier_o19_l1_b]
  rw [if_neg (by omega)]
theorem bar36_loop (b:List Str) (pe:List (Int × Str)) (fu:Int) (off:Bool) (s1 s2 s3 s4 sq at_:Int) (di lg:List (Int × Str)) (hp:∀ x ∈ pe,0 ≤ x.1 ∧ x.1 ≤ (b.length:Int) - 1) (hl:pe.length ≤ 1048576) :
  spec_l09Barrier_o36_l1 pe fu off s1 s2 s3 s4 sq at_ di lg (b,0) = some (barL b pe pe.length,pe,fu,off,s1,s2,s3,s4,sq,at_,di,lg):=by
 unfold spec_l09Barrier_o36_l1
 refine loop_some pe.length (fun i s=>s = (barL b pe i,(i:Int))) (fun i s hi hs=>?_) pe.length 0 _ (by omega) rfl
 subst hs
 by_cases hn:i < pe.length
 ·obtain ⟨x,hx⟩:=get_at hn
  have hb:=hp x (List.mem_of_getElem? hx)
  have hlen:=barL_len b pe i
  obtain ⟨y,hy⟩:=get_at (l:=barL b pe i) (i:=x.1.toNat) (by omega)
  refine .inr ⟨hn,(barL b pe (i + 1),((i + 1:Nat):Int)),?_,rfl⟩
  simp only [spec_l09Barrier_o36_l1_b]
  rw [if_pos (by omega),if_pos (by omega),Int.toNat_natCast,hx,obs,if_pos (by omega),obs,if_pos (by omega),hy,obs,w1 (by omega)]
  simp [barL,List.getD_eq_getElem?_getD,hx]
 ·have:i = pe.length:=by omega
  subst this
  refine .inl ?_
  simp only [spec_l09Barrier_o36_l1_b]
  rw [if_neg (by omega)]
theorem sBar (d:DDisk) (q:PRest) (hd:DiskV d):spec_l09Barrier_o19 (d,q) = some (((barD d).1,q),(barD d).2):=by
 obtain ⟨a1,a2,a3,a4,a5,a6,a7⟩:=hd
 obtain ⟨b,pe,fu,off⟩:=d
 simp only at a1 a2 a3 a4 a5 a6 a7
 have hl:=fun (f:Int)=>sBar_loop b pe f off q (fun x hx=>⟨(a7 x hx).1,(a7 x hx).2.1⟩) (by omega)
 unfold spec_l09Barrier_o19 spec_l09Power_o19 barD NoPow offD decF
 cases off with
 | true=>simp
 | false =>
  by_cases c2:fu = 0
  ·simp [c2]
  by_cases c3:fu > 0
  ·simp [c2,c3,wrap_in (show -9223372036854775808 ≤ fu - 1 by omega) (by omega),hl]
  ·simp [c2,c3,hl]
theorem sBar36 (d:DDisk) (q:PRest) (hd:DiskV d):spec_l09Barrier_o36 (d,q) = some (flat (barD d).1 q (barD d).2):=by
 obtain ⟨a1,a2,a3,a4,a5,a6,a7⟩:=hd
 obtain ⟨b,pe,fu,off⟩:=d
 simp only at a1 a2 a3 a4 a5 a6 a7
 have hl:=fun (f:Int)=>bar36_loop b pe f off q.1.1 q.1.2.1 q.1.2.2.1 q.1.2.2.2 q.2.1 q.2.2.1 q.2.2.2.2 q.2.2.2.1 (fun x hx=>⟨(a7 x hx).1,(a7 x hx).2.1⟩) (by omega)
 unfold spec_l09Barrier_o36 spec_l09Power_o36 barD NoPow offD decF flat
 cases off with
 | true=>simp [fixLen_self]
 | false =>
  by_cases c2:fu = 0
  ·simp [c2,fixLen_self]
  by_cases c3:fu > 0
  ·simp [c2,c3,wrap_in (show -9223372036854775808 ≤ fu - 1 by omega) (by omega),hl,fixLen_self]
  ·simp [c2,c3,hl,fixLen_self]
theorem appPut (l:List (Int × Str)) (x:Int × Str) (h:l.length < 600):appL 24 l (lit [x]) = some (l ++ [x]):=by unfold appL lit; rw [if_pos (by simp [maxRow]; omega)]
theorem sWr (d:DDisk) (q:PRest) (k:Int) (x:Str) (hd:DiskV d) (hm:d.2.1.length < 600):spec_l09Write_oc8 (d,q) k x = some (((wrD d k x).1,q),(wrD d k x).2):=by
 obtain ⟨a1,a2,a3,a4,a5,a6,a7⟩:=hd
 obtain ⟨b,pe,fu,off⟩:=d
 simp only at a1 a2 a3 a4 a5 a6 a7 hm
 have ha:=appPut pe (k,x) hm
 unfold spec_l09Write_oc8 spec_l09Power_o19 wrD NoPow offD decF
 cases off with
 | true=>simp
 | false =>
  by_cases c2:fu = 0
  ·simp [c2]
  simp only
  rw [if_neg (by simp),if_neg c2,if_neg (by omega)]
  by_cases c3:fu > 0
  ·simp [c2,c3,wrap_in (show -9223372036854775808 ≤ fu - 1 by omega) (by omega),ha]
  ·simp [c2,c3,ha]
theorem sWr87 (d:DDisk) (q:PRest) (k:Int) (x:Str) (hd:DiskV d) (hm:d.2.1.length < 600):spec_l09Write_o87 (d,q) k x = some (flat (wrD d k x).1 q (wrD d k x).2):=by
 obtain ⟨a1,a2,a3,a4,a5,a6,a7⟩:=hd
 obtain ⟨b,pe,fu,off⟩:=d
 simp only at a1 a2 a3 a4 a5 a6 a7 hm
 have ha:=appPut pe (k,x) hm
 unfold spec_l09Write_o87 spec_l09Power_o36 wrD NoPow offD decF flat
 cases off with
 | true=>simp
 | false =>
  by_cases c2:fu = 0
  ·simp [c2]
  simp only
  rw [if_neg (by simp),if_neg c2,if_neg (by omega)]
  by_cases c3:fu > 0
  ·simp [c2,c3,wrap_in (show -9223372036854775808 ≤ fu - 1 by omega) (by omega),ha,fixLen_self]
  ·simp [c2,c3,ha,fixLen_self]
abbrev D12:=List Str × List (Int × Str) × Int × Bool × Int × Int × Int × Int × Int × Int × List (Int × Str) × List (Int × Str)
def fl12 (d:DDisk) (q:PRest):D12:=(d.1,d.2.1,d.2.2.1,d.2.2.2,q.1.1,q.1.2.1,q.1.2.2.1,q.1.2.2.2,q.2.1,q.2.2.1,q.2.2.2.2,q.2.2.2.1)
def LogOk (n:Nat) (l:List (Int × Str)):Prop:=l.length ≤ 256 ∧ ∀ x ∈ l,0 ≤ x.1 ∧ x.1 < n ∧ x.2.length = 64
theorem sPlace_loop {n:Nat} (d:DDisk) (q:PRest) (hd:DInv n 0 d) (hl:LogOk n q.2.2.2.1) :
  spec_l12Place_oba_l1 (flat d q (0:Int)) = some (if (wrL d q.2.2.2.1).2 = 0 then .inl (fl12 (wrL d q.2.2.2.1).1 q) else .inr (flat (wrL d q.2.2.2.1).1 q (wrL d q.2.2.2.1).2)):=by
 have hlen:=hl.1
 unfold spec_l12Place_oba_l1
 refine wr_loop (n:=n) (m:=0) q.2.2.2.1 hl.2 (by omega) (fun d i=>flat d q (i:Int)) (fun d=>(Sum.inl (fl12 d q):D12 ⊕ DFlat Int)) (fun r=>Sum.inr (flat r.1 q r.2)) _ (fun d i x hdi hi hx=>?_) (fun d hdi=>?_) _ 0 d rfl (by omega) hd
 ·have hw:=sWr87 d q x.1 x.2 hdi.1 (by have:=hdi.2.2; omega)
  have hw2:=(show spec_l09Write_o87 ((d.1,d.2.1,d.2.2.1,d.2.2.2),(q.1.1,q.1.2.1,q.1.2.2.1,q.1.2.2.2),q.2.1,q.2.2.1,q.2.2.2.1,q.2.2.2.2) x.1 x.2 = _ from hw)
  have c1:(i:Int) < (q.2.2.2.1.length:Int):=by omega
  have c2:(0:Int) ≤ i:=by omega
  have c3:IntKind.i64.wrap ((i:Int) + 1) = (i:Int) + 1:=w1 (by omega)
  simp only [spec_l12Place_oba_l1_b,flat,c1,c2,and_self,if_true,Int.toNat_natCast,hx,obs]
  simp only [flat] at hw2
  rw [hw2]
  by_cases hz:(wrD d x.1 x.2).2 = 0
  ·simp only [obs,if_true,fixLen_self,hz,not_true_eq_false,if_false,c3]
   simp
  ·simp only [obs,if_true,fixLen_self,hz,not_false_eq_true,if_false]
 ·simp [spec_l12Place_oba_l1_b,flat,fl12]
theorem sPlace {n m:Nat} (d:DDisk) (q:PRest) (hd:DInv n m d) (hl:LogOk n q.2.2.2.1) :
  spec_l12Place_oba (d,q) = some (flat (andD (barD d) fun d=>andD (wrL d q.2.2.2.1) barD).1 q (andD (barD d) fun d=>andD (wrL d q.2.2.2.1) barD).2):=by
 unfold spec_l12Place_oba
 rw [sBar36 d q hd.1,obs]
 simp only [flat,if_true,fixLen_self]
 rcases barD_inv hd with ⟨h0,hi⟩ | ⟨h0,hi⟩
 ·have ha:∀ f:DDisk → DDisk × Int,andD (barD d) f = f (barD d).1:=fun f=>if_pos h0
  have h:=sPlace_loop (barD d).1 q hi hl
  simp only [flat] at h
  rw [if_neg (by simpa using h0),ha,h,obs]
  obtain ⟨_,hj⟩:=wrL_inv q.2.2.2.1 0 (barD d).1 hi hl.2 (by have:=hl.1; omega)
  by_cases hz:(wrL (barD d).1 q.2.2.2.1).2 = 0
  ·rw [if_pos hz,show andD (wrL (barD d).1 q.2.2.2.1) barD = barD (wrL (barD d).1 q.2.2.2.1).1 from if_pos hz]
   simp only [Sum.elim_inl,fl12]
   generalize (wrL (barD d).1 q.2.2.2.1).1 = e at hj
   rw [show spec_l09Barrier_o36 ((e.1,e.2.1,e.2.2.1,e.2.2.2),(q.1.1,q.1.2.1,q.1.2.2.1,q.1.2.2.2),q.2.1,q.2.2.1,q.2.2.2.1,q.2.2.2.2) = _ from sBar36 e q hj.1,obs]
   simp only [flat,if_true,fixLen_self]
  ·rw [if_neg hz,show andD (wrL (barD d).1 q.2.2.2.1) barD = wrL (barD d).1 q.2.2.2.1 from if_neg hz]
   simp only [Sum.elim_inr,flat]
 ·have hne:¬ (barD d).2 = 0:=by omega
  rw [if_pos hne,show (andD (barD d) fun d=>andD (wrL d q.2.2.2.1) barD) = barD d from if_neg hne]
theorem sSuper {n m:Nat} (d:DDisk) (q:PRest) (s:DSuper) (hd:DInv n m d) (hm:m < 600) (hn:16 ≤ n) (hs:SuperV s) :
  spec_l12Super_o35 (d,q) s.1 s.2.1 s.2.2.1 s.2.2.2 = some (((andD (wrD d (Int.tmod s.2.2.2 2) (encS s)) barD).1,q),(andD (wrD d (Int.tmod s.2.2.2 2) (encS s)) barD).2):=by
 have ht:0 ≤ Int.tmod s.2.2.2 2 ∧ Int.tmod s.2.2.2 2 ≤ 1:=by rw [Int.tmod_eq_emod_of_nonneg hs.2.2.2.2.2.2.2.1]; omega
 unfold spec_l12Super_o35
 rw [show spec_l10Encode (s.1,s.2.1,s.2.2.1,s.2.2.2) = _ from l10Encode_out s hs.sin,obs,sWr d q _ _ hd.1 (by have:=hd.2.2; omega),obs]
 simp only
 obtain ⟨_,hj⟩:=wrD_inv (k:=Int.tmod s.2.2.2 2) (b:=encS s) hd ht.1 (by omega) (encS_length s) hm
 by_cases hz:(wrD d (Int.tmod s.2.2.2 2) (encS s)).2 = 0
 ·rw [if_neg (by simpa using hz),sBar _ q hj.1,obs,show andD (wrD d (Int.tmod s.2.2.2 2) (encS s)) barD = barD (wrD d (Int.tmod s.2.2.2 2) (encS s)).1 from if_pos hz]
 ·rw [if_pos hz,show andD (wrD d (Int.tmod s.2.2.2 2) (encS s)) barD = wrD d (Int.tmod s.2.2.2 2) (encS s) from if_neg hz]
theorem zero_out:spec_l09Zero = some zB:=by
 unfold spec_l09Zero
 rw [show mkL 1 64 64 (⟨0⟩:Bt) = some (List.replicate 64 ⟨0⟩) from mkL_ok 1 64 (⟨0⟩:Bt) (by decide) (by decide)]
 rfl
theorem sClear {n:Nat} (d:DDisk) (q:PRest) (N:Nat) (s:DSuper) (hs:s.2.1 = N) (hd:DInv n 0 d) (hN:N + 2 ≤ n) (h64:N ≤ 64) :
  spec_l12Clear_o35 (d,q) s.1 s.2.1 s.2.2.1 s.2.2.2 = some (((andD (clrD d N 2) barD).1,q),(andD (clrD d N 2) barD).2):=by
 unfold spec_l12Clear_o35 spec_l12Clear_o35_l1
 have hA:spec_l10Area (s.1,s.2.1,s.2.2.1,s.2.2.2) = some (2 + (N:Int)):=by
  unfold spec_l10Area
  simp only [hs]
  rw [wrap_in (by omega) (by omega)]
 have hn:=hd.1.2.1
 have hdn:=hd.2.1
 have hloop:=clr_loop (n:=n) N hN (by omega) (fun d i=>(((d,q):DPager),2 + (i:Int))) (fun d=>Sum.inl (d,q)) (fun r=>Sum.inr ((r.1,q),r.2)) (fun s'=>spec_l12Clear_o35_l1_b (s.1,s.2.1,s.2.2.1,s.2.2.2) s'.1 s'.2)
  (fun d i hdi hi=>by
   obtain ⟨r1,r2⟩:=readD_out d (2 + i) hdi.1 (by omega) (by have:=hdi.2.1; omega)
   simp only [spec_l12Clear_o35_l1_b]
   rw [hA,obs,if_pos (by omega),l09Read_out d _ (by have:=hdi.2.2; omega),r1,obs,zero_out,obs]
   by_cases hz:rdD d (2 + i) = zB
   ·rw [if_pos hz,if_pos hz,wrap_in (by omega) (by omega)]
    simp only [Int.natCast_add,Int.natCast_one,Int.add_assoc]
   ·rw [if_neg hz,if_neg hz,obs,sWr d q _ _ hdi.1 (by have:=hdi.2.2; omega),obs]
    simp only
    by_cases hc:(wrD d (2 + i) zB).2 = 0
    ·rw [if_neg (by simpa using hc),if_pos hc,wrap_in (by omega) (by omega)]
     simp only [Int.natCast_add,Int.natCast_one,Int.add_assoc]
    ·rw [if_pos hc,if_neg hc])
  (fun d hdi=>by
   simp only [spec_l12Clear_o35_l1_b]
   rw [hA,obs,if_neg (by omega)]) N 0 d (by omega) (by omega) hd
 simp only [Int.natCast_zero,Int.add_zero] at hloop
 rw [hloop,obs]
 obtain ⟨_,hj⟩:=clrD_inv N 0 2 d hd (by omega) (by omega) (by omega)
 by_cases hz:(clrD d N 2).2 = 0
 ·rw [if_pos hz,show andD (clrD d N 2) barD = barD (clrD d N 2).1 from if_pos hz]
  simp only [Sum.elim_inl]
  rw [sBar _ q hj.1,obs]
 ·rw [if_neg hz,show andD (clrD d N 2) barD = clrD d N 2 from if_neg hz]
  simp only [Sum.elim_inr]
theorem u8_zero {c:UInt8} (h:(c.toNat:Int) = 0):c = 0:=UInt8.toNat_inj.1 (by show c.toNat = 0; omega)
theorem trim_out:∀ (n:Nat) (s:Str),s.length = n → n ≤ 1048576 → ∃ t,strings_trimRightByte s 0 = some t ∧ (t = [] ↔ ∀ b ∈ s,b = 0):=by
 intro n
 induction n with
 | zero =>
  intro s hs _
  have:s = []:=List.eq_nil_of_length_eq_zero hs
  subst this
  refine ⟨[],?_,by simp⟩
  unfold strings_trimRightByte strings_trimRightByte_l1
  rw [loopO_inr (r:=[]) (by simp [strings_trimRightByte_l1_b])]; rfl
 | succ n ih =>
  intro s hs hn
  obtain ⟨c,hc⟩:=get_at (l:=s) (i:=n) (by omega)
  have hsp:s = s.take n ++ [c]:=by
   have h1:s.take (n + 1) = s.take n ++ [c]:=by rw [List.take_add_one,hc]; rfl
   rw [List.take_of_length_le (by omega)] at h1
   exact h1
  have step:strings_trimRightByte_l1_b 0 s = if c = 0 then some (.inl (s.take n)) else some (.inr s):=by
   simp only [strings_trimRightByte_l1_b]
   rw [if_pos (by omega),wrap_in (by omega) (by omega),if_pos (by omega),show ((s.length:Int) - 1).toNat = n by omega,hc,obs]
   by_cases h0:c = 0
   ·subst h0
    rw [if_pos (by rfl),if_pos rfl,show (s.length:Int) - 1 = ((n:Nat):Int) by omega,subL_to s n (by omega)]; rfl
   ·rw [if_neg (fun h=>h0 (u8_zero h)),if_neg h0]
  by_cases h0:c = 0
  ·obtain ⟨t,h1,h2⟩:=ih (s.take n) (by simp; omega) (by omega)
   refine ⟨t,?_,?_⟩
   ·unfold strings_trimRightByte strings_trimRightByte_l1 at h1 ⊢
    rw [loopO_inl (s':=s.take n) (by rw [step,if_pos h0])]
    exact h1
   ·rw [h2]
    conv=>rhs; rw [hsp]
    simp only [List.mem_append,List.mem_singleton,h0]
    exact ⟨fun h b hb=>hb.elim (h b) id,fun h b hb=>h b (.inl hb)⟩
  ·refine ⟨s,?_,?_⟩
   ·unfold strings_trimRightByte strings_trimRightByte_l1
    rw [loopO_inr (r:=s) (by rw [step,if_neg h0])]; rfl
   ·constructor
    ·intro h; rw [h] at hs; simp at hs
    ·intro h; exact absurd (h c (List.mem_of_getElem? hc)) h0
theorem trimmed_out (s:Str) (h:s.length ≤ 1048576):∃ t,impl_trimmed s = some t ∧ (t = [] ↔ ∀ b ∈ s,b = 0):=by
 unfold impl_trimmed strings_TrimRight
 by_cases hs:s = []
 ·subst hs; exact ⟨[],by simp,by simp⟩
 ·rw [if_neg hs]
  obtain ⟨t,h1,h2⟩:=trim_out _ s rfl h
  exact ⟨t,by rw [h1]; rfl,h2⟩
theorem zeros_iff (l:Str) (n:Nat) (h:l.length = n):l = List.replicate n 0 ↔ ∀ b ∈ l,b = 0:=by
 subst h
 rw [List.eq_replicate_iff]; simp
theorem iBar_loop (b:List Str) (pe:List (Int × Str)) (fu:Int) (off:Bool) (q:PRest) (hp:∀ x ∈ pe,0 ≤ x.1 ∧ x.1 ≤ (b.length:Int) - 1) (hl:pe.length ≤ 1048576) :
  impl_Disk_barrier_o19_l1 pe.length (((b,pe,fu,off),q),0) = some ((barL b pe pe.length,pe,fu,off),q):=by
 unfold impl_Disk_barrier_o19_l1
 refine loop_some pe.length (fun i s=>s = (((barL b pe i,pe,fu,off),q),(i:Int))) (fun i s hi hs=>?_) pe.length 0 _ (by omega) rfl
 subst hs
 by_cases hn:i < pe.length
 ·obtain ⟨x,hx⟩:=get_at hn
  have hb:=hp x (List.mem_of_getElem? hx)
  have hlen:=barL_len b pe i
  obtain ⟨y,hy⟩:=get_at (l:=barL b pe i) (i:=x.1.toNat) (by omega)
  refine .inr ⟨hn,(((barL b pe (i + 1),pe,fu,off),q),((i + 1:Nat):Int)),?_,rfl⟩
  simp only [impl_Disk_barrier_o19_l1_b]
  rw [if_pos (by omega),if_pos (by omega),Int.toNat_natCast,hx,obs,if_pos (by omega),hy,obs,w1 (by omega)]
  simp [barL,List.getD_eq_getElem?_getD,hx]
 ·have:i = pe.length:=by omega
  subst this
  refine .inl ?_
  simp only [impl_Disk_barrier_o19_l1_b]
  rw [if_neg (by omega)]
theorem iBar (d:DDisk) (q:PRest) (hd:DiskV d):impl_Disk_barrier_o19 (d,q) = some (((barD d).1,q),(barD d).2):=by
 obtain ⟨a1,a2,a3,a4,a5,a6,a7⟩:=hd
 obtain ⟨b,pe,fu,off⟩:=d
 simp only at a1 a2 a3 a4 a5 a6 a7
 have hl:=fun (f:Int)=>iBar_loop b pe f off q (fun x hx=>⟨(a7 x hx).1,(a7 x hx).2.1⟩) (by omega)
 unfold impl_Disk_barrier_o19 impl_Disk_power_o19 barD NoPow offD decF
 cases off with
 | true=>simp
 | false =>
  by_cases c2:fu = 0
  ·simp [c2]
  by_cases c3:fu > 0
  ·simp [c2,c3,wrap_in (show -9223372036854775808 ≤ fu - 1 by omega) (by omega),hl]
  ·simp [c2,c3,hl]
theorem iWr (d:DDisk) (q:PRest) (k:Int) (x:Str) (hd:DiskV d) (hm:d.2.1.length < 600):impl_Disk_write_oc8 (d,q) k x = some (((wrD d k x).1,q),(wrD d k x).2):=by
 obtain ⟨a1,a2,a3,a4,a5,a6,a7⟩:=hd
 obtain ⟨b,pe,fu,off⟩:=d
 simp only at a1 a2 a3 a4 a5 a6 a7 hm
 have ha:=appPut pe (k,x) hm
 have hm2:¬ (600:Int) ≤ pe.length:=by omega
 unfold impl_Disk_write_oc8 impl_Disk_power_o19 wrD NoPow offD decF
 cases off with
 | true=>simp
 | false =>
  by_cases c2:fu = 0
  ·simp [c2]
  by_cases c3:fu > 0
  ·simp [c2,c3,wrap_in (show -9223372036854775808 ≤ fu - 1 by omega) (by omega),ha,hm2]
  ·simp [c2,c3,ha,hm2]
theorem iWr87 (d:DDisk) (q:PRest) (k:Int) (x:Str) (hd:DiskV d) (hm:d.2.1.length < 600):impl_Disk_write_o87 (d,q) k x = some (flat (wrD d k x).1 q (wrD d k x).2):=by
 obtain ⟨a1,a2,a3,a4,a5,a6,a7⟩:=hd
 obtain ⟨b,pe,fu,off⟩:=d
 simp only at a1 a2 a3 a4 a5 a6 a7 hm
 have ha:=appPut pe (k,x) hm
 have hm2:¬ (600:Int) ≤ pe.length:=by omega
 unfold impl_Disk_write_o87 impl_Disk_power_o36 wrD NoPow offD decF flat
 cases off with
 | true=>simp [fixLen_self]
 | false =>
  by_cases c2:fu = 0
  ·simp [c2,fixLen_self]
  by_cases c3:fu > 0
  ·simp [c2,c3,wrap_in (show -9223372036854775808 ≤ fu - 1 by omega) (by omega),ha,hm2,fixLen_self]
  ·simp [c2,c3,ha,hm2,fixLen_self]
theorem iPlace_loop {n:Nat} (d:DDisk) (q:PRest) (hd:DInv n 0 d) (hl:LogOk n q.2.2.2.1) :
  impl_Disk_writeAll_oba_l1 (q.2.2.2.1.length:Int) (flat d q (0:Int)) = some (if (wrL d q.2.2.2.1).2 = 0 then .inl (fl12 (wrL d q.2.2.2.1).1 q) else .inr (flat (wrL d q.2.2.2.1).1 q (wrL d q.2.2.2.1).2)):=by
 have hlen:=hl.1
 unfold impl_Disk_writeAll_oba_l1
 refine wr_loop (n:=n) (m:=0) q.2.2.2.1 hl.2 (by omega) (fun d i=>flat d q (i:Int)) (fun d=>(Sum.inl (fl12 d q):D12 ⊕ DFlat Int)) (fun r=>Sum.inr (flat r.1 q r.2)) _ (fun d i x hdi hi hx=>?_) (fun d hdi=>?_) _ 0 d rfl (by omega) hd
 ·have hw:=iWr87 d q x.1 x.2 hdi.1 (by have:=hdi.2.2; omega)
  have hw2:=(show impl_Disk_write_o87 ((d.1,d.2.1,d.2.2.1,d.2.2.2),(q.1.1,q.1.2.1,q.1.2.2.1,q.1.2.2.2),q.2.1,q.2.2.1,q.2.2.2.1,q.2.2.2.2) x.1 x.2 = _ from hw)
  have c1:(i:Int) < (q.2.2.2.1.length:Int):=by omega
  have c2:(0:Int) ≤ i:=by omega
  have c3:IntKind.i64.wrap ((i:Int) + 1) = (i:Int) + 1:=w1 (by omega)
  simp only [impl_Disk_writeAll_oba_l1_b,flat,c1,c2,and_self,if_true,Int.toNat_natCast,hx,obs]
  simp only [flat] at hw2
  rw [hw2]
  by_cases hz:(wrD d x.1 x.2).2 = 0
  ·simp only [obs,if_true,fixLen_self,hz,not_true_eq_false,if_false,c3]
   simp
  ·simp only [obs,if_true,fixLen_self,hz,not_false_eq_true,if_false]
 ·simp [impl_Disk_writeAll_oba_l1_b,flat,fl12]
theorem iPlace {n:Nat} (d:DDisk) (q:PRest) (hd:DInv n 0 d) (hl:LogOk n q.2.2.2.1) :
  impl_Pager_checkpoint_c1_o60 (d,q) = some (((wrL d q.2.2.2.1).1,q),(wrL d q.2.2.2.1).2):=by
 have h:=iPlace_loop d q hd hl
 unfold impl_Pager_checkpoint_c1_o60 impl_Disk_writeAll_oba
 simp only [flat] at h
 simp only
 rw [h,obs]
 by_cases hz:(wrL d q.2.2.2.1).2 = 0
 ·rw [if_pos hz]
  simp only [Sum.elim_inl,fl12,obs,if_true,fixLen_self,hz]
 ·rw [if_neg hz]
  simp only [Sum.elim_inr,flat,obs,if_true,fixLen_self]
theorem iSuper {n m:Nat} (d:DDisk) (q:PRest) (s:DSuper) (hd:DInv n m d) (hm:m < 600) :
  impl_Pager_checkpoint_c2_o0d (d,q) s = some (((wrD d (Int.tmod s.2.2.2 2) (encS s)).1,q),s,(wrD d (Int.tmod s.2.2.2 2) (encS s)).2):=by
 unfold impl_Pager_checkpoint_c2_o0d impl_Disk_writeSuper_o35
 rw [show impl_Super_encode (s.1,s.2.1,s.2.2.1,s.2.2.2) = _ from encode_out s,obs,iWr d q _ _ hd.1 (by have:=hd.2.2; omega),obs,obs]
theorem iClear {n:Nat} (d:DDisk) (q:PRest) (N:Nat) (hs:q.1.2.1 = N) (hd:DInv n 0 d) (hN:N + 2 ≤ n) (h64:N ≤ 64) :
  impl_Pager_clearLog_o19 (d,q) = some (((clrD d N 2).1,q),(clrD d N 2).2):=by
 unfold impl_Pager_clearLog_o19 impl_Pager_clearLog_o19_l1
 simp only [hs]
 have hn:=hd.1.2.1
 have hdn:=hd.2.1
 have hloop:=clr_loop (n:=n) N hN (by omega) (fun d i=>(((d,q):DPager),(i:Int))) (fun d=>Sum.inl (d,q)) (fun r=>Sum.inr ((r.1,q),r.2)) (fun s'=>impl_Pager_clearLog_o19_l1_b N s'.1 s'.2)
  (fun d i hdi hi=>by
   obtain ⟨r1,r2⟩:=readD_out d (2 + i) hdi.1 (by omega) (by have:=hdi.2.1; omega)
   obtain ⟨t,t1,t2⟩:=trimmed_out (rdD d (2 + i)) (by omega)
   have hzi:=zeros_iff (rdD d (2 + i)) 64 r2
   simp only [impl_Pager_clearLog_o19_l1_b,impl_Disk_read]
   rw [if_pos (by omega),wrap_in (n:=2 + (i:Int)) (by omega) (by omega),r1,obs,t1,obs]
   by_cases hz:rdD d (2 + i) = zB
   ·rw [if_pos (t2.2 (hzi.1 hz)),if_pos hz,w1 (by omega)]; rfl
   ·rw [if_neg (fun h=>hz (hzi.2 (t2.1 h))),if_neg hz,show impl_zeros 64 = some zB from zeros_out 64 (by omega),obs,iWr d q _ _ hdi.1 (by have:=hdi.2.2; omega),obs]
    simp only
    by_cases hc:(wrD d (2 + i) zB).2 = 0
    ·rw [if_neg (by simpa using hc),if_pos hc,w1 (by omega)]; rfl
    ·rw [if_pos hc,if_neg hc])
  (fun d hdi=>by
   simp only [impl_Pager_clearLog_o19_l1_b]
   rw [if_neg (by omega)]) N 0 d (by omega) (by omega) hd
 simp only [Int.natCast_zero,Int.add_zero] at hloop
 rw [hloop,obs]
 by_cases hz:(clrD d N 2).2 = 0
 ·rw [if_pos hz]
  simp only [Sum.elim_inl,hz]
 ·rw [if_neg hz]
  simp only [Sum.elim_inr]
theorem andD_z {r:DDisk × Int} {f:DDisk → DDisk × Int} (h:r.2 = 0):andD r f = f r.1:=if_pos h
theorem andD_n {r:DDisk × Int} {f:DDisk → DDisk × Int} (h:¬ r.2 = 0):andD r f = r:=if_neg h
theorem andD_assoc (r:DDisk × Int) (f g:DDisk → DDisk × Int):andD (andD r f) g = andD r fun d=>andD (f d) g:=by
 by_cases h:r.2 = 0
 ·rw [andD_z h,andD_z h]
 ·rw [andD_n h,andD_n h,andD_n h]
def nxS (q:PRest):DSuper:=(q.1.1,q.1.2.1,q.2.1,q.1.2.2.2 + 1)
def ckR (d:DDisk) (q:PRest):DDisk × Int:=ckD d q.2.2.2.1 (nxS q) q.1.2.1.toNat
theorem pv_inv {d:DDisk} {q:PRest} (hp:PagerV (d,q)) (ht:¬ q.1.2.2.2 = 1000000000000):DInv d.1.length 600 d ∧ LogOk d.1.length q.2.2.2.1 ∧ SuperV (nxS q) ∧ (0 ≤ q.1.2.1 ∧ q.1.2.1 ≤ 64 ∧ q.1.2.1 + 2 ≤ (d.1.length:Int)) ∧ q.1.2.2.2 < 1000000000000 ∧ 16 ≤ d.1.length:=by
 obtain ⟨hd,_,hs,hl,hq,_,hP1,_,hW1,_,_⟩:=hp
 have hs':=hs
 obtain ⟨v1,v2,v3,v4,v5,v6,v7,v8,v9⟩:=hs'
 simp only at hl hq hP1 hW1 v1 v2 v3 v4 v5 v6 v7 v8 v9
 refine ⟨⟨hd,rfl,by have h600:(d.2.1.length:Int) ≤ 600:=hd.2.2.1; omega⟩,⟨hP1.1,fun x hx=>?_⟩,⟨v1,v2,v3,v4,v5,by simp only [nxS]; omega,by simp only [nxS]; omega,by simp only [nxS]; omega,by simp only [nxS]; omega⟩,by omega,by omega,by have h16:(16:Int) ≤ d.1.length:=hd.1; omega⟩
 obtain ⟨i,hi,he⟩:=List.mem_iff_getElem.1 hx
 have hp:=hP1.2 i hi x (by rw [List.getElem?_eq_getElem hi,he])
 have hw:=hW1 x hx
 exact ⟨hp.1,by have hw2:x.1 ≤ q.1.1 - 1:=hw.2; omega,hp.2.2.1⟩
theorem ck_code {d:DDisk} {q:PRest} (hp:PagerV (d,q)) (ht:¬ q.1.2.2.2 = 1000000000000):((ckR d q).2 = 0 ∨ (ckR d q).2 = 13) ∧ DInv d.1.length 600 (ckR d q).1:=by
 obtain ⟨hi,hl,hs,hN,hlt,h16⟩:=pv_inv hp ht
 have hb:∀ {m:Nat} {e:DDisk},m ≤ 600 → DInv d.1.length m e → ((barD e).2 = 0 ∨ (barD e).2 = 13) ∧ DInv d.1.length 600 (barD e).1:=fun {m e} hm he=>by
  rcases barD_inv he with ⟨a,b⟩ | ⟨a,b⟩
  ·exact ⟨.inl a,b.1,b.2.1,by have:=b.2.2; omega⟩
  ·exact ⟨.inr a,b.1,b.2.1,by have:=b.2.2; omega⟩
 have step:∀ (r:DDisk × Int) (f:DDisk → DDisk × Int),((r.2 = 0 ∨ r.2 = 13) ∧ DInv d.1.length 600 r.1) → (r.2 = 0 → ((f r.1).2 = 0 ∨ (f r.1).2 = 13) ∧ DInv d.1.length 600 (f r.1).1) → ((andD r f).2 = 0 ∨ (andD r f).2 = 13) ∧ DInv d.1.length 600 (andD r f).1:=fun r f h1 h2=>by
  by_cases h:r.2 = 0
  ·rw [andD_z h]; exact h2 h
  ·rw [andD_n h]; exact h1
 have b0:∀ {m:Nat} {e:DDisk},DInv d.1.length m e → (barD e).2 = 0 → DInv d.1.length 0 (barD e).1:=fun {m e} he h=>by
  rcases barD_inv he with ⟨a,b⟩ | ⟨a,b⟩
  ·exact b
  ·omega
 have ht2:0 ≤ Int.tmod (nxS q).2.2.2 2 ∧ Int.tmod (nxS q).2.2.2 2 ≤ 1:=by rw [Int.tmod_eq_emod_of_nonneg hs.2.2.2.2.2.2.2.1]; omega
 have up:∀ {m:Nat} {e:DDisk},m ≤ 600 → DInv d.1.length m e → DInv d.1.length 600 e:=fun {m e} hm he=>⟨he.1,he.2.1,by have:=he.2.2; omega⟩
 unfold ckR ckD
 refine step _ _ (hb (Nat.le_refl _) hi) fun z1=>?_
 have w:=wrL_inv q.2.2.2.1 0 (barD d).1 (b0 hi z1) hl.2 (by have:=hl.1; omega)
 refine step _ _ ⟨w.1,up (by have:=hl.1; omega) w.2⟩ fun z2=>?_
 refine step _ _ (hb (by have:=hl.1; omega) w.2) fun z3=>?_
 have w2:=wrD_inv (k:=Int.tmod (nxS q).2.2.2 2) (b:=encS (nxS q)) (b0 w.2 z3) ht2.1 (by omega) (encS_length _) (by omega)
 refine step _ _ ⟨w2.1,up (by omega) w2.2⟩ fun z4=>?_
 refine step _ _ (hb (by omega) w2.2) fun z5=>?_
 have w3:=clrD_inv q.1.2.1.toNat 0 2 _ (b0 w2.2 z5) (by omega) (by omega) (by omega)
 refine step _ _ ⟨w3.1,up (by omega) w3.2⟩ fun z6=>?_
 exact hb (by omega) w3.2
def endK (q:PRest) (r:DDisk × Int):DPager × Int:=if r.2 = 0 then ((r.1,nxS q,q.2.1,0,[],q.2.2.2.2),0) else ((r.1,q),r.2)
theorem sCheck {d:DDisk} {q:PRest} (hp:PagerV (d,q)) (ht:¬ q.1.2.2.2 = 1000000000000):spec_l12Check_o19 (d,q) = some (endK q (ckR d q)):=by
 obtain ⟨hi,hl,hs,hN,hlt,h16⟩:=pv_inv hp ht
 have hq0:0 ≤ q.1.2.2.2:=hp.2.2.1.2.2.2.2.2.2.2.1
 have hck:ckR d q = andD (andD (barD d) fun d=>andD (wrL d q.2.2.2.1) barD) fun d=>andD (andD (wrD d (Int.tmod (nxS q).2.2.2 2) (encS (nxS q))) barD) fun d=>andD (clrD d q.1.2.1.toNat 2) barD:=by
  unfold ckR ckD; simp only [andD_assoc]
 unfold spec_l12Check_o19
 rw [if_neg (by simp only; omega),sPlace d q hi hl,obs]
 simp only [flat,if_true,fixLen_self]
 have iA:(andD (barD d) fun d=>andD (wrL d q.2.2.2.1) barD).2 = 0 → DInv d.1.length 0 (andD (barD d) fun d=>andD (wrL d q.2.2.2.1) barD).1:=fun h=>by
  rcases barD_inv hi with ⟨a,b⟩ | ⟨a,b⟩
  ·rw [andD_z a] at h ⊢
   have w:=wrL_inv q.2.2.2.1 0 (barD d).1 b hl.2 (by have:=hl.1; omega)
   by_cases hz:(wrL (barD d).1 q.2.2.2.1).2 = 0
   ·rw [andD_z hz] at h ⊢
    rcases barD_inv w.2 with ⟨a2,b2⟩ | ⟨a2,b2⟩
    ·exact b2
    ·omega
   ·rw [andD_n hz] at h; exact absurd h hz
  ·rw [andD_n (by omega)] at h; omega
 rw [hck]
 generalize (andD (barD d) fun d=>andD (wrL d q.2.2.2.1) barD) = A at iA
 by_cases hA:A.2 = 0
 case neg =>
  rw [if_pos hA,andD_n hA]
  unfold endK; rw [if_neg hA]
 rw [if_neg (by simpa using hA),andD_z hA,wrap_in (n:=q.1.2.2.2 + 1) (by omega) (by omega)]
 have iA:=iA hA
 rw [show spec_l12Super_o35 ((A.1.1,A.1.2.1,A.1.2.2.1,A.1.2.2.2),(q.1.1,q.1.2.1,q.1.2.2.1,q.1.2.2.2),q.2.1,q.2.2.1,q.2.2.2.1,q.2.2.2.2) q.1.1 q.1.2.1 q.2.1 (q.1.2.2.2 + 1) = _ from sSuper A.1 q (nxS q) iA (by omega) h16 hs,obs]
 simp only
 have ht2:0 ≤ Int.tmod (nxS q).2.2.2 2 ∧ Int.tmod (nxS q).2.2.2 2 ≤ 1:=by rw [Int.tmod_eq_emod_of_nonneg hs.2.2.2.2.2.2.2.1]; omega
 have w2:=wrD_inv (k:=Int.tmod (nxS q).2.2.2 2) (b:=encS (nxS q)) iA ht2.1 (by omega) (encS_length _) (by omega)
 have iB:(andD (wrD A.1 (Int.tmod (nxS q).2.2.2 2) (encS (nxS q))) barD).2 = 0 → DInv d.1.length 0 (andD (wrD A.1 (Int.tmod (nxS q).2.2.2 2) (encS (nxS q))) barD).1:=fun h=>by
  by_cases hz:(wrD A.1 (Int.tmod (nxS q).2.2.2 2) (encS (nxS q))).2 = 0
  ·rw [andD_z hz] at h ⊢
   rcases barD_inv w2.2 with ⟨a2,b2⟩ | ⟨a2,b2⟩
   ·exact b2
   ·omega
  ·rw [andD_n hz] at h; exact absurd h hz
 generalize (andD (wrD A.1 (Int.tmod (nxS q).2.2.2 2) (encS (nxS q))) barD) = B at iB
 by_cases hB:B.2 = 0
 case neg =>
  rw [if_pos hB,andD_n hB]
  unfold endK; rw [if_neg hB]
 rw [if_neg (by simpa using hB),andD_z hB]
 rw [sClear B.1 q q.1.2.1.toNat q.1 (by omega) (iB hB) (by omega) (by omega),obs]
 generalize andD (clrD B.1 q.1.2.1.toNat 2) barD = C
 by_cases hC:C.2 = 0
 ·rw [if_neg (by simpa using hC)]
  unfold endK; rw [if_pos hC]; rfl
 ·rw [if_pos hC]
  unfold endK; rw [if_neg hC]
theorem iCheck {d:DDisk} {q:PRest} (hp:PagerV (d,q)) (ht:¬ q.1.2.2.2 = 1000000000000):impl_Pager_checkpoint_o19 (d,q) = some (endK q (ckR d q)):=by
 obtain ⟨hi,hl,hs,hN,hlt,h16⟩:=pv_inv hp ht
 have hq0:0 ≤ q.1.2.2.2:=hp.2.2.1.2.2.2.2.2.2.2.1
 have b0:∀ {m:Nat} {e:DDisk},DInv d.1.length m e → (barD e).2 = 0 → DInv d.1.length 0 (barD e).1:=fun {m e} he h=>by
  rcases barD_inv he with ⟨a,b⟩ | ⟨a,b⟩
  ·exact b
  ·omega
 have ht2:0 ≤ Int.tmod (nxS q).2.2.2 2 ∧ Int.tmod (nxS q).2.2.2 2 ≤ 1:=by rw [Int.tmod_eq_emod_of_nonneg hs.2.2.2.2.2.2.2.1]; omega
 have hT:impl_inTurn_of8 (d,q) (nxS q) = some (((ckR d q).1,q),nxS q,(ckR d q).2):=by
  unfold impl_inTurn_of8 ckR ckD
  rw [iBar d q hi.1,obs]
  by_cases z1:(barD d).2 = 0
  case neg=>simp only [z1,not_false_eq_true,if_true,andD_n z1]
  have i1:=b0 hi z1
  simp only [z1,not_true_eq_false,if_false,andD_z z1]
  rw [iPlace _ q i1 hl,obs]
  have w:=wrL_inv q.2.2.2.1 0 (barD d).1 i1 hl.2 (by have:=hl.1; omega)
  generalize wrL (barD d).1 q.2.2.2.1 = W at w
  by_cases z2:W.2 = 0
  case neg=>simp only [z2,not_false_eq_true,if_true,andD_n z2]
  simp only [z2,not_true_eq_false,if_false,andD_z z2]
  rw [iBar _ q w.2.1,obs]
  by_cases z3:(barD W.1).2 = 0
  case neg=>simp only [z3,not_false_eq_true,if_true,andD_n z3]
  have i3:=b0 w.2 z3
  simp only [z3,not_true_eq_false,if_false,andD_z z3]
  rw [iSuper _ q (nxS q) i3 (by omega),obs]
  have w2:=wrD_inv (k:=Int.tmod (nxS q).2.2.2 2) (b:=encS (nxS q)) i3 ht2.1 (by omega) (encS_length _) (by omega)
  generalize wrD (barD W.1).1 (Int.tmod (nxS q).2.2.2 2) (encS (nxS q)) = V at w2
  by_cases z4:V.2 = 0
  case neg=>simp only [z4,not_false_eq_true,if_true,andD_n z4]
  simp only [z4,not_true_eq_false,if_false,andD_z z4]
  rw [iBar _ q w2.2.1,obs]
  by_cases z5:(barD V.1).2 = 0
  case neg=>simp only [z5,not_false_eq_true,if_true,andD_n z5]
  have i5:=b0 w2.2 z5
  simp only [z5,not_true_eq_false,if_false,andD_z z5]
  rw [iClear _ q q.1.2.1.toNat (by omega) i5 (by omega) (by omega),obs]
  have w3:=clrD_inv q.1.2.1.toNat 0 2 _ i5 (by omega) (by omega) (by omega)
  generalize clrD (barD V.1).1 q.1.2.1.toNat 2 = U at w3
  by_cases z6:U.2 = 0
  case neg=>simp only [z6,not_false_eq_true,if_true,andD_n z6]
  simp only [z6,not_true_eq_false,if_false,andD_z z6]
  rw [iBar _ q w3.2.1,obs]
  by_cases z7:(barD U.1).2 = 0
  ·simp only [z7,not_true_eq_false,if_false]
  ·simp only [z7,not_false_eq_true,if_true]
 unfold impl_Pager_checkpoint_o19
 simp only
 rw [if_neg ht,wrap_in (n:=q.1.2.2.2 + 1) (by omega) (by omega),show impl_inTurn_of8 (d,q) (q.1.1,q.1.2.1,q.2.1,q.1.2.2.2 + 1) = _ from hT,obs]
 simp only
 unfold endK
 by_cases hz:(ckR d q).2 = 0
 ·rw [if_neg (by simpa using hz),if_pos hz]
 ·rw [if_pos hz,if_neg hz]
theorem rdD_wr {d:DDisk} {k:Int} {b:Str} (h:(wrD d k b).2 = 0) (j:Int):rdD (wrD d k b).1 j = if k = j then b else rdD d j:=by
 unfold wrD at h ⊢
 by_cases hn:NoPow d
 ·rw [if_pos hn] at h; simp at h
 ·rw [if_neg hn]
  unfold rdD
  simp only [List.reverse_append,List.reverse_singleton,List.singleton_append,List.find?_cons]
  by_cases hk:k = j
  ·rw [if_pos hk]
   simp [hk]
  ·rw [if_neg hk]
   simp [hk]
theorem barL_get (b:List Str) (p:List (Int × Str)) (k:Int) (h0:0 ≤ k) (h1:k < (b.length:Int)) (hp:∀ x ∈ p,0 ≤ x.1):∀ i,i ≤ p.length → (barL b p i).getD k.toNat [] = match (p.take i).reverse.find? (fun p=>decide (p.1 = k)) with
  | some p=>p.2
  | none=>b.getD k.toNat []
 | 0,_=>by simp [barL]
 | i + 1,hi=>by
  obtain ⟨x,hx⟩:=get_at (l:=p) (i:=i) (by omega)
  have hx0:=hp x (List.mem_of_getElem? hx)
  have hlen:=barL_len b p i
  have ih:=barL_get b p k h0 h1 hp i (by omega)
  simp only [barL]
  rw [List.take_add_one,hx]
  have hg:p.getD i (0,[]) = x:=by rw [List.getD_eq_getElem?_getD,hx]; rfl
  rw [hg]
  simp only [Option.toList_some,List.reverse_append,List.reverse_singleton,List.singleton_append,List.find?_cons]
  by_cases hk:x.1 = k
  ·rw [hk]
   simp only [decide_true]
   rw [List.getD_eq_getElem?_getD,List.getElem?_set_self (by omega)]
   rfl
  ·have:¬ x.1.toNat = k.toNat:=by omega
   simp only [hk,decide_false]
   rw [List.getD_eq_getElem?_getD,List.getElem?_set_ne this,← List.getD_eq_getElem?_getD,ih]
theorem rdD_bar {d:DDisk} (hd:DiskV d) (h:(barD d).2 = 0) (j:Int) (h0:0 ≤ j) (h1:j < (d.1.length:Int)):rdD (barD d).1 j = rdD d j:=by
 unfold barD at h ⊢
 by_cases hn:NoPow d
 ·rw [if_pos hn] at h; simp at h
 ·rw [if_neg hn]
  have:=barL_get d.1 d.2.1 j h0 h1 (fun x hx=>(hd.2.2.2.2.2.2 x hx).1) d.2.1.length (Nat.le_refl _)
  rw [List.take_of_length_le (Nat.le_refl _)] at this
  unfold rdD
  simp only [List.reverse_nil,List.find?_nil]
  exact this
theorem andD_0 {r:DDisk × Int} {f:DDisk → DDisk × Int} (h:(andD r f).2 = 0):r.2 = 0 ∧ (f r.1).2 = 0 ∧ andD r f = f r.1:=by
 by_cases hr:r.2 = 0
 ·rw [andD_z hr] at h ⊢; exact ⟨hr,h,rfl⟩
 ·rw [andD_n hr] at h; exact absurd h hr
theorem rdD_wrL (j:Int):∀ (l:List (Int × Str)) (d:DDisk),l.Pairwise (fun x y=>x.1 < y.1) → (wrL d l).2 = 0 → rdD (wrL d l).1 j = match pgF l j with | some x=>x.2 | none=>rdD d j
 | [],d,_,_=>by simp [wrL,pgF]
 | x::l,d,hp,h=>by
  simp only [wrL] at h ⊢
  obtain ⟨z1,z2,z3⟩:=andD_0 h
  rw [z3]
  obtain ⟨hx,hl⟩:=List.pairwise_cons.1 hp
  have ih:=rdD_wrL j l (wrD d x.1 x.2).1 hl z2
  rw [ih]
  simp only [pgF,List.find?_cons]
  by_cases hk:x.1 = j
  ·simp only [hk,decide_true]
   have:l.find? (fun p=>decide (p.1 = j)) = none:=by
    rw [List.find?_eq_none]
    intro y hy
    have:=hx y hy
    simp; omega
   rw [this]
   simp only
   rw [rdD_wr (by rw [← hk]; exact z1),if_pos rfl]
  ·simp only [hk,decide_false]
   rw [rdD_wr z1,if_neg hk]
theorem rdD_clr (j:Int):∀ (n:Nat) (k:Int) (d:DDisk),(clrD d n k).2 = 0 → j < k ∨ k + n ≤ j → rdD (clrD d n k).1 j = rdD d j
 | 0,k,d,_,_=>rfl
 | n + 1,k,d,h,hj=>by
  simp only [clrD] at h ⊢
  by_cases hz:rdD d k = zB
  ·rw [if_pos hz] at h ⊢
   exact rdD_clr j n (k + 1) d h (by omega)
  ·rw [if_neg hz] at h ⊢
   obtain ⟨z1,z2,z3⟩:=andD_0 h
   rw [z3,rdD_clr j n (k + 1) _ z2 (by omega),rdD_wr z1,if_neg (by omega)]
theorem rdD_ck {d:DDisk} {q:PRest} (hp:PagerV (d,q)) (ht:¬ q.1.2.2.2 = 1000000000000) (hz:(ckR d q).2 = 0) (j:Int) (h0:2 + q.1.2.1 ≤ j) (h1:j < (d.1.length:Int)) :
  rdD (ckR d q).1 j = comP (d,q) j ∧ DInv d.1.length 0 (ckR d q).1:=by
 obtain ⟨hi,hl,hs,hN,hlt,h16⟩:=pv_inv hp ht
 have b0:∀ {m:Nat} {e:DDisk},DInv d.1.length m e → (barD e).2 = 0 → DInv d.1.length 0 (barD e).1:=fun {m e} he h=>by
  rcases barD_inv he with ⟨a,b⟩ | ⟨a,b⟩
  ·exact b
  ·omega
 have rb:∀ {m:Nat} {e:DDisk},DInv d.1.length m e → (barD e).2 = 0 → rdD (barD e).1 j = rdD e j:=fun {m e} he h=>rdD_bar he.1 h j (by omega) (by rw [he.2.1]; exact h1)
 have ht2:0 ≤ Int.tmod (nxS q).2.2.2 2 ∧ Int.tmod (nxS q).2.2.2 2 ≤ 1:=by rw [Int.tmod_eq_emod_of_nonneg hs.2.2.2.2.2.2.2.1]; omega
 unfold ckR ckD at hz ⊢
 obtain ⟨z1,hz,e1⟩:=andD_0 hz
 obtain ⟨z2,hz,e2⟩:=andD_0 hz
 obtain ⟨z3,hz,e3⟩:=andD_0 hz
 obtain ⟨z4,hz,e4⟩:=andD_0 hz
 obtain ⟨z5,hz,e5⟩:=andD_0 hz
 obtain ⟨z6,hz,e6⟩:=andD_0 hz
 rw [e1,e2,e3,e4,e5,e6]
 have w:=wrL_inv q.2.2.2.1 0 (barD d).1 (b0 hi z1) hl.2 (by have:=hl.1; omega)
 have w2:=wrD_inv (k:=Int.tmod (nxS q).2.2.2 2) (b:=encS (nxS q)) (b0 w.2 z3) ht2.1 (by omega) (encS_length _) (by omega)
 have w3:=clrD_inv q.1.2.1.toNat 0 2 _ (b0 w2.2 z5) (by omega) (by omega) (by omega)
 refine ⟨?_,b0 w3.2 hz⟩
 have hpw:q.2.2.2.1.Pairwise (fun x y=>x.1 < y.1):=((pagesV_iff _).1 hp.2.2.2.2.2.2.1).2.2
 rw [rb w3.2 hz,rdD_clr j _ _ _ z6 (by omega),rb w2.2 z5,rdD_wr z4,if_neg (by omega),rb w.2 z3,rdD_wrL j _ _ hpw z2,rb hi z1]
 rfl
end Go.Proofs.TM
