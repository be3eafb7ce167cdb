import Derived.Test.YtfbolaoobodmoaaGreatTLib
namespace Go.Proofs.TM
open Go
def insertTF (el:Nat) (zs:List TV) (sz bytes ovl rot:Nat):TFn:=⟨(.seq (.ops [⟨(some 6),none,(.mv (.c .nils))⟩]) ((.seq (.ops [⟨(some 10),none,(.mv (.t 0))⟩,⟨(some 11),none,(.mv (.t 1))⟩,⟨(some 12),none,(.slice sz (.t 10) (some (.t 11)) none none)⟩]) ((.seq (.ops [⟨(some 13),none,(.mv (.t 2))⟩,⟨(some 14),none,(.len false (.t 13))⟩,⟨(some 7),none,(.mv (.t 14))⟩]) ((.seq (.seq (.ops [⟨(some 15),none,(.mv (.t 7))⟩,⟨(some 16),none,(.bin .num .eql (.t 15) (.c (.int .i64 0)))⟩]) ((.cond (.t 16) (.seq (.ops [⟨(some 17),none,(.mv (.t 0))⟩,⟨(some 6),none,(.mv (.t 17))⟩]) .ret) .skip))) ((.seq (.ops [⟨(some 18),none,(.mv (.t 0))⟩,⟨(some 19),none,(.len false (.t 18))⟩,⟨(some 8),none,(.mv (.t 19))⟩]) ((.seq (.seq (.ops [⟨(some 20),none,(.mv (.t 1))⟩,⟨(some 21),none,(.mv (.t 8))⟩,⟨(some 22),none,(.bin .num .eql (.t 20) (.t 21))⟩]) ((.cond (.t 22) (.seq (.ops [⟨(some 23),none,(.mv (.t 0))⟩,⟨(some 24),none,(.mv (.t 2))⟩,⟨(some 25),none,(.append el sz bytes (.t 23) (.t 24))⟩,⟨(some 6),none,(.mv (.t 25))⟩]) .ret) .skip))) ((.seq (.seq (.ops [⟨(some 26),none,(.mv (.t 8))⟩,⟨(some 27),none,(.mv (.t 7))⟩,⟨(some 28),none,(.bin .num .add (.t 26) (.t 27))⟩,⟨(some 29),none,(.mv (.t 0))⟩,⟨(some 30),none,(.cap (.t 29))⟩,⟨(some 31),none,(.bin .num .gtr (.t 28) (.t 30))⟩]) ((.cond (.t 31) (.seq (.ops [⟨(some 32),none,(.mv (.t 0))⟩,⟨(some 33),none,(.mv (.t 1))⟩,⟨(some 34),none,(.slice sz (.t 32) none (some (.t 33)) none)⟩,⟨(some 35),none,(.mv (.t 8))⟩,⟨(some 36),none,(.mv (.t 7))⟩,⟨(some 37),none,(.bin .num .add (.t 35) (.t 36))⟩,⟨(some 38),none,(.mv (.t 1))⟩,⟨(some 39),none,(.bin .num .sub (.t 37) (.t 38))⟩,⟨(some 40),none,(.appz bytes zs (.t 34) (.t 39))⟩,⟨(some 9),none,(.mv (.t 40))⟩]) ((.seq (.ops [⟨(some 41),none,(.mv (.t 9))⟩,⟨(some 42),none,(.mv (.t 1))⟩,⟨(some 43),none,(.slice sz (.t 41) (some (.t 42)) none none)⟩,⟨(some 44),none,(.mv (.t 2))⟩,⟨(some 45),none,(.copy sz (.t 43) (.t 44))⟩]) ((.seq (.draw [([],⟨(some 46),none,(.mv (.t 9))⟩),([],⟨(some 47),none,(.mv (.t 1))⟩),([],⟨(some 48),none,(.mv (.t 7))⟩),([1,2],⟨(some 49),none,(.bin .num .add (.t 47) (.t 48))⟩),([0,1,2,3],⟨(some 50),none,(.slice sz (.t 46) (some (.t 49)) none none)⟩),([],⟨(some 51),none,(.mv (.t 0))⟩),([],⟨(some 52),none,(.mv (.t 1))⟩),([5,6],⟨(some 53),none,(.slice sz (.t 51) (some (.t 52)) none none)⟩)] [⟨(some 54),none,(.copy sz (.t 50) (.t 53))⟩]) ((.seq (.ops [⟨(some 55),none,(.mv (.t 9))⟩,⟨(some 6),none,(.mv (.t 55))⟩]) .ret))))))) .skip))) ((.seq (.ops [⟨(some 56),none,(.mv (.t 0))⟩,⟨(some 57),none,(.mv (.t 8))⟩,⟨(some 58),none,(.mv (.t 7))⟩,⟨(some 59),none,(.bin .num .add (.t 57) (.t 58))⟩,⟨(some 60),none,(.slice sz (.t 56) none (some (.t 59)) none)⟩,⟨(some 0),none,(.mv (.t 60))⟩]) ((.seq (.seq (.ops [⟨(some 61),none,(.mv (.t 2))⟩,⟨(some 62),none,(.mv (.t 0))⟩,⟨(some 63),none,(.mv (.t 1))⟩,⟨(some 64),none,(.mv (.t 7))⟩,⟨(some 65),none,(.bin .num .add (.t 63) (.t 64))⟩,⟨(some 66),none,(.slice sz (.t 62) (some (.t 65)) none none)⟩,⟨(some 67),none,(.ovl ovl (.t 61) (.t 66))⟩,⟨(some 68),none,(.un .not (.t 67))⟩]) ((.cond (.t 68) (.seq (.draw [([],⟨(some 69),none,(.mv (.t 0))⟩),([],⟨(some 70),none,(.mv (.t 1))⟩),([],⟨(some 71),none,(.mv (.t 7))⟩),([1,2],⟨(some 72),none,(.bin .num .add (.t 70) (.t 71))⟩),([0,1,2,3],⟨(some 73),none,(.slice sz (.t 69) (some (.t 72)) none none)⟩),([],⟨(some 74),none,(.mv (.t 0))⟩),([],⟨(some 75),none,(.mv (.t 1))⟩),([5,6],⟨(some 76),none,(.slice sz (.t 74) (some (.t 75)) none none)⟩)] [⟨(some 77),none,(.copy sz (.t 73) (.t 76))⟩]) ((.seq (.ops [⟨(some 78),none,(.mv (.t 0))⟩,⟨(some 79),none,(.mv (.t 1))⟩,⟨(some 80),none,(.slice sz (.t 78) (some (.t 79)) none none)⟩,⟨(some 81),none,(.mv (.t 2))⟩,⟨(some 82),none,(.copy sz (.t 80) (.t 81))⟩]) ((.seq (.ops [⟨(some 83),none,(.mv (.t 0))⟩,⟨(some 6),none,(.mv (.t 83))⟩]) .ret))))) .skip))) ((.seq (.ops [⟨(some 84),none,(.mv (.t 0))⟩,⟨(some 85),none,(.mv (.t 8))⟩,⟨(some 86),none,(.slice sz (.t 84) (some (.t 85)) none none)⟩,⟨(some 87),none,(.mv (.t 2))⟩,⟨(some 88),none,(.copy sz (.t 86) (.t 87))⟩]) ((.seq (.ops [⟨(some 89),none,(.mv (.t 0))⟩,⟨(some 90),none,(.mv (.t 1))⟩,⟨(some 91),none,(.slice sz (.t 89) (some (.t 90)) none none)⟩,⟨(some 92),none,(.mv (.t 7))⟩,⟨(some 93),none,(.call rot [(.t 91),(.t 92)])⟩]) ((.seq (.ops [⟨(some 94),none,(.mv (.t 0))⟩,⟨(some 6),none,(.mv (.t 94))⟩]) .ret))))))))))))))))))))))),[.t 6]⟩
section
variable {w:World} {I:Nat→Nat→Prop} {μ:Mu} {H:Heap}
theorem HR.reblk (hr:HR w I μ (look H)) {H':Heap} (h:∀ id sz l,look H' id=.live sz l→∃ l0,look H id=.live sz l0∧(l=l0∨∃ loc,μ id=some loc∧loc.off+l.length * sz≤loc.top∧(∀ xs ∈ l,xs.length=sz) ∧
   ∀ (i:Nat) (xs:List TV),l[i]?=some xs→(∃ ys,l0[i]?=some ys∧xs=ys)∨∀ t ∈ xs,t=.undef)) :
  HR w I μ (look H')∧∀ b k,Foot μ (look H') b k→Foot μ (look H) b k:=by
 have hf:∀ b k,Foot μ (look H') b k→Foot μ (look H) b k:=fun b k ⟨id,sz,l,loc,f1,f2,f3,f4,f5⟩=>by
  obtain ⟨l0,g1,_⟩:=h id sz l f1
  exact ⟨id,sz,l0,loc,g1,f2,f3,f4,f5⟩
 refine ⟨⟨fun id sz l hl=>?_,fun id id' sz l sz' l' loc loc' h1 h2=>?_,fun b k f=>hr.noI b k (hf b k f),hr.lt⟩,hf⟩
 ·obtain ⟨l0,g1,g2⟩:=h id sz l hl
  obtain ⟨loc,c,ty,fr,a1,a2,a3⟩:=hr.live id sz l0 g1
  rcases g2 with rfl | ⟨loc',e1,e2,e3,e4⟩
  ·exact ⟨loc,c,ty,fr,a1,a2,a3⟩
  ·rw [a1] at e1
   cases e1
   refine ⟨loc,c,ty,fr,a1,a2,a3.hsz,a3.hty,a3.size,e2,a3.frozen,e3,fun i xs k t hi hk=>?_⟩
   rcases e4 i xs hi with ⟨ys,q1,rfl⟩ | q
   ·exact a3.cells i xs k t q1 hk
   ·have ht:=q t (List.mem_of_getElem? hk)
    subst ht
    have hil:i < l.length:=(List.getElem?_eq_some_iff.1 hi).1
    have hkl:k < sz:=by rw [← e3 xs (List.mem_of_getElem? hi)];exact (List.getElem?_eq_some_iff.1 hk).1
    have hx:=idx_lt hil hkl
    have hs:=a3.size
    exact ⟨c[loc.off+i * sz+k]'(by omega),Array.getElem?_eq_getElem (by omega),.undef _ _⟩
 ·obtain ⟨l0,g1,_⟩:=h id sz l h1
  obtain ⟨l0',g1',_⟩:=h id' sz' l' h2
  exact hr.disj id id' sz l0 sz' l0' loc loc' g1 g1'
end
section
variable {α:Type} [Cel α]
section
variable (S:Sys) {zs xs:List TV} {sz bytes ovl rot n i c el:Nat} {L:List (List TV)}
def capV (x:TV):Option TV:=match x with | .hc _ _ _ c=>some (.int .i64 (c:Int)) | _=>none
@[simp] theorem capV_hc (i o l c:Nat):capV (.hc i o l c)=some (.int .i64 (c:Int)):=rfl
@[simp] theorem sA_cap (e:Env) (H:Heap) (b:Nat) (x:Opd):opA S e H b (.cap x)=val0 (capV (ev e x)):=by simp only [opA,capV];generalize ev e x=v;cases v <;> rfl
@[simp] theorem sR_cap (rec:TC→Env→Heap→Option Out) (e:Env) (H:Heap) (x:Opd):runOp rec S e H (.cap x)=valH H (capV (ev e x)):=sA_val _ _ _ _ (fun b=>sA_cap S e H b x) rfl
@[simp] theorem sR_copy (rec:TC→Env→Heap→Option Out) (e:Env) (H:Heap) (k:Nat) (x y:Opd):runOp rec S e H (.copy k x y)=copyM H k (ev e x) (ev e y):=rfl
def ovlB (S:Sys) (H:Heap) (f:Nat) (x y:TV):Option (TV×List Blk):=match S.ovl f,x,rng y with
  | some sz,.hs id off len true,some (id',off',len')=>match H[id]?,H[id']? with
   | some (.live sz1 l1),some (.live sz2 l2)=>if id ≠ id'∧sz1=sz∧sz2=sz∧off+len≤l1.length∧off'+len'≤l2.length then some (.bool false,[]) else none
   | _,_=>none
  | _,_,_=>none
@[simp] theorem sR_ovl (rec:TC→Env→Heap→Option Out) (e:Env) (H:Heap) (f:Nat) (x y:Opd):runOp rec S e H (.ovl f x y)=blkH H (ovlB S H f (ev e x) (ev e y)):=rfl
def appzV (H:Heap) (base bytes:Nat) (zero:List TV) (s n:TV):Option (TV×List Blk):=match s,n with
  | .hc id off len cap,.int _ k=>match H[id]? with
   | some (.live sz l)=>if 0 < k∧cap < len+k.toNat∧sz=zero.length∧off+len≤l.length∧(len+k.toNat) * (bytes+1)≤maxRow then
     some (.hs base 0 (len+k.toNat) false,[.live zero.length ((l.drop off).take len++List.replicate k.toNat zero)]) else none
   | _=>none
  | _,_=>none
@[simp] theorem sR_appz (rec:TC→Env→Heap→Option Out) (e:Env) (H:Heap) (bs:Nat) (z:List TV) (x y:Opd):runOp rec S e H (.appz bs z x y)=blkH H (appzV H H.length bs z (ev e x) (ev e y)):=rfl
theorem sliceC_lo {id off len cap l:Nat} (h2:l≤len):sliceC id off len cap (some (l:Int)) none none=some (.hc id (off+l) (len - l) (cap - l)):=by
 simp [sliceC,bound,h2]
theorem sliceC_hi {id off len cap h:Nat} (h1:h≤cap):sliceC id off len cap none (some (h:Int)) none=some (.hc id off h cap):=by
 simp [sliceC,bound,h1]
theorem sliceT_lo {id off len l:Nat} (h2:l≤len):sliceT (.hs id off len false) (some (l:Int)) none none=some (.hs id (off+l) (len - l) false):=by
 simp [sliceT,lenT,bound,cutT,h2]
theorem add_wrap (h:(n+1) * (bytes+1)≤maxRow):IntKind.i64.wrap ((n:Int)+1)=(n:Int)+1:=by
 have:(n+1) * 1≤(n+1) * (bytes+1):=Nat.mul_le_mul_left _ (by omega)
 simp only [maxRow] at h
 rw [IntKind.wrap_i64];omega
theorem ins_end (hn:0 < n) (hl:L.length=n) (hx:xs.length=sz) (hp:xs.all plain=true) (h:(n+1) * (bytes+1)≤maxRow) :
  callFn (X S) (insertTF el zs sz bytes ovl rot) [.hs 0 0 n false,.int .i64 n,.hs 1 0 1 true] [.live sz L,.live sz [xs]]=some (.hs 2 0 (n+1) false,[.dead,.live sz [xs],.live sz (L++[xs])]):=by
 have h1:appR [Blk.live sz L,Blk.live sz [xs]] el sz bytes (.hs 0 0 n false) (elB (some (Blk.live sz [xs])) 0 1)=some (.hs 2 0 (n+1) false,[.dead,.live sz [xs],.live sz (L++[xs])]):=by
  simp [appR,elB,hl,hx,h]
  simpa using hp
 rw [callFn_eq]
 simp -implicitDefEqProofs [insertTF,sliceT,lenT,bound,cutT,szBad,h1]
theorem ins_end0 (hx:xs.length=sz) (h:(0+1) * (bytes+1)≤maxRow) :
  callFn (X S) (insertTF el zs sz bytes ovl rot) [.es,.int .i64 0,.hs 1 0 1 true] [.dead,.live sz [xs]]=some (.hs 2 0 1 false,[.dead,.live sz [xs],.live sz [xs]]):=by
 have h1:appR [Blk.dead,Blk.live sz [xs]] el sz bytes .es (elB (some (Blk.live sz [xs])) 0 1)=some (.hs 2 0 1 false,[.dead,.live sz [xs],.live sz [xs]]):=by
  have h2:bytes+1≤maxRow:=by omega
  simp [appR,elB,hx,h2]
 rw [callFn_eq]
 simp -implicitDefEqProofs [insertTF,sliceT,lenT,bound,cutT,szBad,h1]
theorem ins_grow (hi:i < n) (hl:L.length=n) (hx:xs.length=sz) (hp:xs.all plain=true) (hL:∀ ys ∈ L,ys.length=sz∧ys.all plain=true) (hz:zs.length=sz) (h:(n+1) * (bytes+1)≤maxRow) :
  callFn (X S) (insertTF el zs sz bytes ovl rot) [.hc 0 0 n n,.int .i64 i,.hs 1 0 1 true] [.live sz L,.live sz [xs]]=some (.hs 2 0 (n+1) false,[.live sz L,.live sz [xs],.live sz (L.take i++[xs]++L.drop i)]):=by
 have a1:sliceC 0 0 n n (some (i:Int)) none none=some (.hc 0 i (n - i) (n - i)):=by rw [sliceC_lo (by omega)];simp
 have a2:sliceC 0 0 n n none (some (i:Int)) none=some (.hc 0 0 i n):=sliceC_hi (by omega)
 have a3:sliceT (.hs 2 0 (n+1) false) (some (i:Int)) none none=some (.hs 2 i (n+1 - i) false):=by rw [sliceT_lo (by omega)];simp
 have a4:sliceT (.hs 2 0 (n+1) false) (some ((i:Int)+1)) none none=some (.hs 2 (i+1) (n - i) false):=by
  have:=sliceT_lo (id:=2) (off:=0) (len:=n+1) (l:=i+1) (by omega)
  simpa using this
 have b1:((i:Int)=(n:Int))=False:=by simp;omega
 have b2:=add_wrap h
 have b3:IntKind.i64.wrap ((i:Int)+1)=(i:Int)+1:=add_wrap (bytes:=0) (by have:(n+1) * 1≤(n+1) * (bytes+1):=Nat.mul_le_mul_left _ (by omega);omega)
 have b5:((n:Int) < (n:Int)+1)=True:=by rw [eq_iff_iff];exact ⟨fun _=>trivial,fun _=>by omega⟩
 have b4:IntKind.i64.wrap ((n:Int)+1 - i)=((n+1 - i:Nat):Int):=by
  have:(n+1) * 1≤(n+1) * (bytes+1):=Nat.mul_le_mul_left _ (by omega)
  simp only [maxRow] at h
  rw [IntKind.wrap_i64];omega
 have hrp:List.replicate (n+1 - i) zs=zs::List.replicate (n - i) zs:=by rw [show n+1 - i=(n - i)+1 by omega];rfl
 have hti:(L.take i).length=i:=by simp;omega
 have c1:appzV [Blk.live sz L,Blk.live sz [xs]] 2 bytes zs (.hc 0 0 i n) (.int .i64 ((n+1 - i:Nat):Int))=some (.hs 2 0 (n+1) false,[.live sz (L.take i++zs::List.replicate (n - i) zs)]):=by
  have e1:i+(n+1 - i)=n+1:=by omega
  simp [appzV,hz,e1,hl,h,hrp]
  omega
 have d1:copyM [Blk.live sz L,Blk.live sz [xs],.live sz (L.take i++zs::List.replicate (n - i) zs)] sz (.hs 2 i (n+1 - i) false) (.hs 1 0 1 true)=some (.int .i64 1,[Blk.live sz L,Blk.live sz [xs],.live sz (L.take i++xs::List.replicate (n - i) zs)]):=by
  have e1:min 1 (n+1 - i)=1:=by omega
  have e2:min i L.length=i:=by omega
  have e3:i+(n+1 - i)≤i+(n - i+1):=by omega
  simp [copyM,rng,elems,isStr,hx,e1,e2,e3,hp,List.take_append,List.drop_append,hti]
 have d2:copyM [Blk.live sz L,Blk.live sz [xs],.live sz (L.take i++xs::List.replicate (n - i) zs)] sz (.hs 2 (i+1) (n - i) false) (.hc 0 i (n - i) (n - i))=some (.int .i64 ((n - i:Nat):Int),[Blk.live sz L,Blk.live sz [xs],.live sz (L.take i++xs::L.drop i)]):=by
  have e2:min i L.length=i:=by omega
  have e3:i+(n - i)≤L.length:=by omega
  have e4:(L.drop i).take (n - i)=L.drop i:=List.take_of_length_le (by simp;omega)
  have e5:∀ ys ∈ L.drop i,ys.length=sz:=fun ys hy=>(hL ys (List.mem_of_mem_drop hy)).1
  have e6:∀ ys ∈ L.drop i,ys.all plain=true:=fun ys hy=>(hL ys (List.mem_of_mem_drop hy)).2
  have e7:(L.drop i).length=n - i:=by simp;omega
  have e8:(L.drop i).take (n - i)=L.drop i:=e4
  have e9:i+1+(n - i)≤(L.take i++xs::List.replicate (n - i) zs).length:=by simp;omega
  have e10:(L.take i++xs::List.replicate (n - i) zs).take (i+1)=L.take i++[xs]:=by rw [List.take_append,hti,List.take_of_length_le (by omega),show i+1 - i=1 by omega];rfl
  have e11:(L.take i++xs::List.replicate (n - i) zs).drop (i+1+(n - i))=[]:=List.drop_eq_nil_of_le (by simp;omega)
  have e12:((L.drop i).all fun ys=>ys.length == sz)=true:=by simpa using e5
  have e13:((L.drop i).all fun ys=>ys.all plain)=true:=by simpa using e6
  simp only [copyM,rng,elems,isStr,List.getElem?_cons_zero,List.getElem?_cons_succ,if_pos e3,e4,e7,Nat.min_self,e9,e12,e13,e10,e11,true_and,if_true,List.append_nil,and_self,List.append_assoc,List.cons_append,List.nil_append,List.set_cons_succ,List.set_cons_zero]
 rw [callFn_eq]
 simp -implicitDefEqProofs [insertTF,szBad,a1,a2,a3,a4,b1,b2,b3,b4,b5,c1,d1,d2]
def pads (sz k:Nat):List (List TV):=List.replicate k (List.replicate sz .undef)
theorem ins_room (hS:S.ovl ovl=some sz) (hi:i < n) (hc:n < c) (hl:L.length=n) (hx:xs.length=sz) (hp:xs.all plain=true) (hL:∀ ys ∈ L,ys.length=sz∧ys.all plain=true) (h:(n+1) * (bytes+1)≤maxRow) :
  callFn (X S) (insertTF el zs sz bytes ovl rot) [.hc 0 0 n c,.int .i64 i,.hs 1 0 1 true] [.live sz (L++pads sz (c - n)),.live sz [xs]]=some (.hc 0 0 (n+1) c,[.live sz (L.take i++xs::L.drop i++pads sz (c - (n+1))),.live sz [xs]]):=by
 have a1:sliceC 0 0 n c (some (i:Int)) none none=some (.hc 0 i (n - i) (c - i)):=by rw [sliceC_lo (by omega)];simp
 have a2:sliceC 0 0 n c none (some ((n:Int)+1)) none=some (.hc 0 0 (n+1) c):=sliceC_hi (h:=n+1) (by omega)
 have a3:sliceC 0 0 (n+1) c (some ((i:Int)+1)) none none=some (.hc 0 (i+1) (n - i) (c - (i+1))):=by
  have:=sliceC_lo (id:=0) (off:=0) (len:=n+1) (cap:=c) (l:=i+1) (by omega)
  simpa using this
 have a4:sliceC 0 0 (n+1) c (some (i:Int)) none none=some (.hc 0 i (n+1 - i) (c - i)):=by rw [sliceC_lo (by omega)];simp
 have b1:((i:Int)=(n:Int))=False:=by simp;omega
 have b2:=add_wrap h
 have b3:IntKind.i64.wrap ((i:Int)+1)=(i:Int)+1:=add_wrap (bytes:=0) (by have:(n+1) * 1≤(n+1) * (bytes+1):=Nat.mul_le_mul_left _ (by omega);omega)
 have b5:((c:Int) < (n:Int)+1)=False:=by rw [eq_iff_iff];exact ⟨fun _=>by omega,fun h=>h.elim⟩
 have hpd:pads sz (c - n)=List.replicate sz .undef::pads sz (c - (n+1)):=by unfold pads;rw [show c - n=(c - (n+1))+1 by omega];rfl
 have hpl:(pads sz (c - (n+1))).length=c - (n+1):=by simp [pads]
 have hti:(L.take i).length=i:=by simp;omega
 have e7:(L.drop i).length=n - i:=by simp;omega
 rw [hpd]
 generalize hQ:pads sz (c - (n+1))=Q at hpl ⊢
 have c1:ovlB S [Blk.live sz (L++List.replicate sz .undef::Q),Blk.live sz [xs]] ovl (.hs 1 0 1 true) (.hc 0 (i+1) (n - i) (c - (i+1)))=some (.bool false,[]):=by
  have e1:i+1+(n - i)≤(L++List.replicate sz TV.undef::Q).length:=by simp;omega
  simp only [ovlB,hS,rng,List.getElem?_cons_zero,List.getElem?_cons_succ,e1]
  simp
 have d1:copyM [Blk.live sz (L++List.replicate sz .undef::Q),Blk.live sz [xs]] sz (.hc 0 (i+1) (n - i) (c - (i+1))) (.hc 0 i (n+1 - i) (c - i))=some (.int .i64 ((n - i:Nat):Int),[Blk.live sz (L.take (i+1)++(L.drop i++Q)),Blk.live sz [xs]]):=by
  have e1:i+(n+1 - i)≤(L++List.replicate sz TV.undef::Q).length:=by simp;omega
  have e2:i+1+(n - i)≤(L++List.replicate sz TV.undef::Q).length:=by simp;omega
  have e3:((L++List.replicate sz TV.undef::Q).drop i).take (n+1 - i)=L.drop i++[List.replicate sz .undef]:=by
   rw [List.drop_append_of_le_length (by omega),List.take_append,e7,List.take_of_length_le (by omega),show n+1 - i - (n - i)=1 by omega];rfl
  have e4:(L.drop i++[List.replicate sz TV.undef]).length=n - i+1:=by simp;omega
  have e5:min (n - i+1) (n - i)=n - i:=by omega
  have e6:(L.drop i++[List.replicate sz TV.undef]).take (n - i)=L.drop i:=by rw [List.take_append,e7,List.take_of_length_le (by omega)];simp
  have e8:(L++List.replicate sz TV.undef::Q).take (i+1)=L.take (i+1):=by rw [List.take_append_of_le_length (by omega)]
  have e9:(L++List.replicate sz TV.undef::Q).drop (i+1+(n - i))=Q:=by rw [List.drop_append,List.drop_eq_nil_of_le (by omega),show i+1+(n - i) - L.length=1 by omega];rfl
  have e10:((L.drop i++[List.replicate sz TV.undef]).all fun ys=>ys.length == sz)=true:=by
   simp only [List.all_eq_true,List.mem_append,List.mem_singleton,beq_iff_eq]
   rintro ys (hy | rfl)
   ·exact (hL ys (List.mem_of_mem_drop hy)).1
   ·simp
  have e11:((L.drop i).all fun ys=>ys.all plain)=true:=by
   simp only [List.all_eq_true]
   intro ys hy
   simpa using (hL ys (List.mem_of_mem_drop hy)).2
  simp only [copyM,rng,elems,isStr,List.getElem?_cons_zero,if_pos e1,e3,e4,e5,e6,e2,e8,e9,e10,e11,true_and,if_true,and_self,List.set_cons_zero,List.append_assoc]
 have d2:copyM [Blk.live sz (L.take (i+1)++(L.drop i++Q)),Blk.live sz [xs]] sz (.hc 0 i (n+1 - i) (c - i)) (.hs 1 0 1 true)=some (.int .i64 1,[Blk.live sz (L.take i++xs::(L.drop i++Q)),Blk.live sz [xs]]):=by
  have e1:min 1 (n+1 - i)=1:=by omega
  have e2:i+(n+1 - i)≤(L.take (i+1)++(L.drop i++Q)).length:=by simp;omega
  have e3:(L.take (i+1)++(L.drop i++Q)).take i=L.take i:=by
   rw [List.take_append_of_le_length (by simp;omega),List.take_take];congr 1;omega
  have e4:(L.take (i+1)++(L.drop i++Q)).drop (i+1)=L.drop i++Q:=by
   rw [List.drop_append,List.drop_eq_nil_of_le (by simp;omega),show i+1 - (L.take (i+1)).length=0 by simp;omega];rfl
  have e5:[xs].all (fun ys=>ys.length == sz)=true:=by simp [hx]
  have e6:[xs].all (fun ys=>ys.all plain)=true:=by simpa using hp
  have e8:elems [Blk.live sz (L.take (i+1)++(L.drop i++Q)),Blk.live sz [xs]] (.hs 1 0 1 true)=some [xs]:=by simp [elems]
  have e9:([xs]:List (List TV)).length=1:=rfl
  have e10:([xs]:List (List TV)).take 1=[xs]:=rfl
  simp only [copyM,rng,e8,isStr,List.getElem?_cons_zero,e9,e1,e2,e3,e4,e5,e6,e10,true_and,if_true,and_self,List.set_cons_zero,List.append_assoc,List.cons_append,List.nil_append]
  rfl
 rw [callFn_eq]
 simp -implicitDefEqProofs [insertTF,szBad,a1,a2,a3,a4,b1,b2,b3,b5,c1,d1,d2]
end
end
section
variable {α:Type} [Cel α]
def insL (bytes:Nat) (l:List α) (i:Int) (x:α):Option (List α) :=
 if 0≤i∧i≤(l.length:Int)∧(l.length+1) * (bytes+1)≤maxRow then some (l.take i.toNat++x::l.drop i.toNat) else none
def insE (a:List α×Int×α):List TV:=[ow 0 a.1.length,.int .i64 a.2.1,.hs 1 0 1 true]
def insB (sz:Nat) (a:List α×Int×α):List Blk:=[ob sz a.1,.live sz [Cel.enc a.2.2]]
def insO (sz:Nat) (r:List α):TV×List Blk:=(ow 0 r.length,[ob sz r])
noncomputable def ins_r (α:Type) [Cel α] (sz bytes:Nat):MRule:=RmO (α:=List α×Int×α) insE (insB sz) (fun a=>insL bytes a.1 a.2.1 a.2.2) (insO sz)
def ovlS (ovl sz:Nat):Sys:=⟨fun _=>none,fun _=>none,fun _ _=>none,fun g=>if g=ovl then some sz else none⟩
theorem ovlS_ok {P:Program} {ovl sz:Nat} (h:OvlOk P ovl sz):SysOk P (ovlS ovl sz):=by
 refine ⟨fun f F h=>(by cases h),fun f tf h=>(by cases h),fun f tag F h=>(by cases h),fun f s hs=>?_⟩
 simp only [ovlS] at hs
 split at hs
 ·rename_i hf;subst hf;cases hs;exact h
 ·cases hs
theorem one_blk {w w':World} {I I':Nat→Nat→Prop} {μ μ1:Mu} {hB:Hf} {H':Heap} (hs:StpM 0 w I μ hB w' I' μ1 (look H')) (hr:HR w' I' μ1 (look H')) {id sz:Nat} {L R:List (List TV)} (hl:look H' id=.live sz (L++R))
  (hren:∀ xs ∈ L++R,xs.map (ren (posOf [id]) 1)=xs) :
  StpM 0 w I μ hB w' I' (muK μ1 [id]) (look [.live sz L])∧HR w' I' (muK μ1 [id]) (look [.live sz L])∧∀ k,([.live sz L]:List Blk).length≤k→muK μ1 [id] k=none:=by
 obtain ⟨g1,g2⟩:=hr.pickK (ids:=[id]) rfl (B:=[.live sz (L++R)]) fun k sz' l hk=>by
  cases k with
  | zero =>
   simp only [look,List.getD_cons_zero,Blk.live.injEq] at hk
   obtain ⟨rfl,rfl⟩:=hk
   refine ⟨id,_,rfl,hl,.inl ?_⟩
   rw [List.map_congr_left hren];simp
  | succ k=>simp [look] at hk
 obtain ⟨loc,c,ty,fr,a1,a2,a3⟩:=hr.live id sz _ hl
 have hm:muK μ1 [id] 0=some loc:=a1
 obtain ⟨q1,q2⟩:=g1.reblk (H':=[.live sz L]) fun k sz' l hk=>by
  cases k with
  | zero =>
   simp only [look,List.getD_cons_zero,Blk.live.injEq] at hk
   obtain ⟨rfl,rfl⟩:=hk
   refine ⟨L++R,rfl,.inr ⟨loc,hm,?_,fun xs hx=>a3.each xs (by simp [hx]),fun i xs hi=>.inl ⟨xs,?_,rfl⟩⟩⟩
   ·have:=a3.fits
    rw [List.length_append,Nat.add_mul] at this
    omega
   ·rw [List.getElem?_append_left (List.getElem?_eq_some_iff.1 hi).1];exact hi
  | succ k=>simp [look] at hk
 refine ⟨⟨hs.ws,hs.up,hs.new,fun k loc hk=>absurd hk (by omega),fun b k hf=>?_⟩,q1,fun k hk=>?_⟩
 ·obtain ⟨id',j,sz',l',loc',e1,e2,e3,e4,e5,e6⟩:=g2 b k (q2 b k hf)
  exact hs.foot b k ⟨id',sz',l',loc',e2,e3,e4,e5,e6⟩
 ·have:([id]:List Nat)[k]?=none:=List.getElem?_eq_none (by simpa using hk)
  simp [muK,this]
theorem rows_ren (ρ:Nat→Option Nat) (l:List α):∀ xs ∈ rows l,xs.map (ren ρ 1)=xs:=by
 intro xs hx
 simp only [rows,List.mem_map] at hx
 obtain ⟨a,_,rfl⟩:=hx
 exact Cel.ren ρ 1 a
theorem pads_ren (ρ:Nat→Option Nat) (sz k:Nat):∀ xs ∈ pads sz k,xs.map (ren ρ 1)=xs:=by
 intro xs hx
 rw [(List.mem_replicate.1 hx).2]
 rw [List.map_replicate];rfl
theorem VRL.get3 {w:World} {I:Nat→Nat→Prop} {μ:Mu} {a b c:TV} {vs:List Value} (h:VRL w I μ [a,b,c] vs):∃ x y z,vs=[x,y,z]∧VR w I μ a x∧VR w I μ b y∧VR w I μ c z:=by
 have hl:=h.1
 match vs,hl with
 | [x,y,z],_=>exact ⟨x,y,z,rfl,h.2 0 _ _ rfl rfl,h.2 1 _ _ rfl rfl,h.2 2 _ _ rfl rfl⟩
theorem VRL.of3 {w:World} {I:Nat→Nat→Prop} {μ:Mu} {a b c:TV} {x y z:Value} (h1:VR w I μ a x) (h2:VR w I μ b y) (h3:VR w I μ c z):VRL w I μ [a,b,c] [x,y,z]:=by
 refine ⟨rfl,fun k t v ht hv=>?_⟩
 match k with
 | 0=>cases ht;cases hv;exact h1
 | 1=>cases ht;cases hv;exact h2
 | 2=>cases ht;cases hv;exact h3
 | k+3=>simp at ht
theorem ins_ok {P:Program} {f el ovl rot sz bytes:Nat} {zs:List TV} (h:Cel.sz α=sz) (hz:zs.length=sz) (hO:OvlOk P ovl sz) (hfn:FnOk P f (insertTF el zs sz bytes ovl rot)):MRuleOk P f 0 (ins_r α sz bytes):=by
 have hS:=ovlS_ok hO
 have hpin:pinsOk 0 (insertTF el zs sz bytes ovl rot).code=true:=pinsOk_zero _
 have hov:(ovlS ovl sz).ovl ovl=some sz:=by simp [ovlS]
 refine ⟨hfn.1,fun ts B r N hF=>?_⟩
 have hx:∃ a:List α×Int×α,insE a=ts∧insB sz a=B∧(insL bytes a.1 a.2.1 a.2.2).map (insO sz)=some (r,N):=by
  unfold ins_r RmO at hF
  split at hF
  ·rename_i hx;exact ⟨_,hx.choose_spec.1,hx.choose_spec.2,hF⟩
  ·cases hF
 clear hF
 obtain ⟨⟨l,i,x⟩,h1,h2,hF⟩:=hx
 have hc:(0≤i∧i≤(l.length:Int)∧(l.length+1) * (bytes+1)≤maxRow)∧insO sz (l.take i.toNat++x::l.drop i.toNat)=(r,N):=by
  simp only [insL] at hF
  split at hF
  ·rename_i hc;exact ⟨hc,by simpa using hF⟩
  ·cases hF
 clear hF
 obtain ⟨⟨hi0,hil,hbig⟩,hF⟩:=hc
 obtain ⟨j,rfl⟩:=Int.eq_ofNat_of_zero_le hi0
 simp only [Int.ofNat_eq_natCast,Int.toNat_natCast] at hF hil
 have hjl:j≤l.length:=by omega
 generalize hR:l.take j++x::l.drop j=res at hF
 have hrl:res.length=l.length+1:=by rw [← hR];simp;omega
 have hN:r=.hs 0 0 (l.length+1) false∧N=[.live sz (rows res)]:=by
  unfold insO at hF
  rw [hrl,ow_succ] at hF
  cases res with
  | nil=>simp at hrl
  | cons y ys=>cases hF;exact ⟨rfl,rfl⟩
 obtain ⟨rfl,rfl⟩:=hN
 have hrows:rows res=(rows l).take j++Cel.enc x::(rows l).drop j:=by rw [← hR];simp [rows]
 have hrlen:(rows l).length=l.length:=by simp
 have hcx:(Cel.enc x).length=sz:=by rw [← h];exact Cel.size x
 have hcp:(Cel.enc x).all plain=true:=Cel.plain x
 have hLs:∀ ys ∈ rows l,ys.length=sz∧ys.all plain=true:=by
  intro ys hy
  simp only [rows,List.mem_map] at hy
  obtain ⟨a,_,rfl⟩:=hy
  exact ⟨by rw [← h];exact Cel.size a,Cel.plain a⟩
 subst h1
 subst h2
 refine ⟨Nat.zero_le _,Nat.zero_le _,fun w I μ vs hr hdom hvs=>?_⟩
 obtain ⟨vs⟩:=vs
 obtain ⟨sv,iv,xv,rfl,hv1,hv2,hv3⟩:=hvs.get3
 simp only [insB,insE] at hr hdom hv1 hv2 hv3 ⊢
 -- what a run that ends with a block leaves
 have fin:∀ {ts':List TV} {B' H':List Blk} {r':TV} {id:Nat} {R:List (List TV)},callFn (X (ovlS ovl sz)) (insertTF el zs sz bytes ovl rot) ts' B'=some (r',H')→HR w I μ (look B')→(∀ k,B'.length≤k→μ k=none) →
   (∀ b k,Foot μ (look B') b k ↔ Foot μ (look [ob sz l,.live sz [Cel.enc x]]) b k)→VRL w I μ ts' [sv,iv,xv]→look H' id=.live sz (rows res++R)→(∀ xs ∈ R,xs.map (ren (posOf [id]) 1)=xs) →
   (∀ w' I' μ1 v,VR w' I' μ1 r' v→VR w' I' (muK μ1 [id]) (.hs 0 0 (l.length+1) false) v) →
   Calls P f #[sv,iv,xv] w fun e w'=>∃ (v:Value) (I':Nat→Nat→Prop) (μ':Mu),e=.returned v∧StpM 0 w I μ (look [ob sz l,.live sz [Cel.enc x]]) w' I' μ' (look [.live sz (rows res)])∧HR w' I' μ' (look [.live sz (rows res)]) ∧
    (∀ id,([.live sz (rows res)]:List Blk).length≤id→μ' id=none)∧VR w' I' μ' (.hs 0 0 (l.length+1) false) v:=by
  intro ts' B' H' r' id R hrun hrB hdB hft hvB hl hR' hvr
  refine (calls_of_X hS hfn hpin hrun hrB hdB hvB).mono fun e w' ⟨v,I',μ1,he,s1,s2,s3,s4⟩=>?_
  obtain ⟨q1,q2,q3⟩:=one_blk s1 s2 hl (fun xs hx=>by
   rcases List.mem_append.1 hx with hx | hx
   ·exact rows_ren _ _ xs hx
   ·exact hR' xs hx)
  refine ⟨v,I',_,he,⟨q1.ws.wide fun b k hf=>(hft b k).1 hf,q1.up,fun b k hi=>?_,q1.le,fun b k hf=>?_⟩,q2,q3,hvr _ _ _ _ s4⟩
  ·rcases q1.new b k hi with (h | h) | h
   ·exact .inl (.inl h)
   ·exact .inl (.inr ((hft b k).1 h))
   ·exact .inr h
  ·exact (q1.foot b k hf).imp (hft b k).1 (fun h=>h)
 have vhs:∀ {id:Nat} {w':World} {I':Nat→Nat→Prop} {μ1:Mu} {v:Value},VR w' I' μ1 (.hs id 0 (l.length+1) false) v→VR w' I' (muK μ1 [id]) (.hs 0 0 (l.length+1) false) v:=fun {id w' I' μ1 v} hv=>by
  cases hv with
  | hs _ _ _ _ _ loc a cap hm ha hlen htop hf=>exact .hs _ _ _ _ _ loc a cap hm ha hlen htop hf
 have vhc:∀ {id cp:Nat} {w':World} {I':Nat→Nat→Prop} {μ1:Mu} {v:Value},VR w' I' μ1 (.hc id 0 (l.length+1) cp) v→VR w' I' (muK μ1 [id]) (.hs 0 0 (l.length+1) false) v:=fun {id cp w' I' μ1 v} hv=>by
  cases hv with
  | hc _ _ _ _ _ loc a hm ha hlen htop=>exact .hs _ _ _ _ _ loc a cp hm ha hlen htop (fun h=>by cases h)
 rcases Nat.lt_or_ge j l.length with hlt | hge
 ·obtain ⟨y,ys,rfl⟩:∃ y ys,l=y::ys:=by
   cases l with
   | nil=>simp at hlt
   | cons y ys=>exact ⟨y,ys,rfl⟩
  have hobl:ob sz (y::ys)=.live sz (rows (y::ys)):=rfl
  generalize hm:y::ys=l at hlt hjl hbig hR hrl hrows hrlen hLs hr hdom hv1 fin vhs vhc hobl ⊢
  have hpos:0 < l.length:=by omega
  rw [show l.length=(l.length - 1)+1 by omega,ow_succ,show l.length - 1+1=l.length by omega] at hv1
  rw [hobl] at hr hdom fin ⊢
  cases hv1 with
  | hs _ _ _ _ _ loc a cap hm0 ha hlen htop hf =>
   obtain ⟨loc',c,ty,fr,k1,k2,k3⟩:=hr.live 0 sz (rows l) rfl
   rw [hm0] at k1
   cases k1
   have hv1':VR w I μ (.hc 0 0 l.length cap) (.slice a l.length cap):=.hc _ _ _ _ _ loc _ hm0 ha hlen htop
   rcases Nat.lt_or_ge l.length cap with hcap | hcap
   ·-- there is room
    have hrun:=ins_room (ovlS ovl sz) (zs:=zs) (el:=el) (rot:=rot) (bytes:=bytes) (i:=j) (c:=cap) hov hlt hcap hrlen hcx hcp hLs hbig
    have hpadl:(pads sz (cap - l.length)).length=cap - l.length:=by simp [pads]
    obtain ⟨p1,p2⟩:=hr.reblk (H':=[.live sz (rows l++pads sz (cap - l.length)),.live sz [Cel.enc x]]) fun id sz' l' hl=>by
     match id with
     | 0 =>
      simp only [look,List.getD_cons_zero,Blk.live.injEq] at hl
      obtain ⟨rfl,rfl⟩:=hl
      refine ⟨rows l,rfl,.inr ⟨loc,hm0,?_,fun xs hx=>?_,fun i xs hi=>?_⟩⟩
      ·rw [k3.hsz,Nat.zero_add] at htop
       rw [List.length_append,hpadl,hrlen,show l.length+(cap - l.length)=cap by omega]
       exact htop
      ·rcases List.mem_append.1 hx with hx | hx
       ·exact (hLs xs hx).1
       ·rw [(List.mem_replicate.1 hx).2];simp
      ·by_cases hil':i < (rows l).length
       ·left;rw [List.getElem?_append_left hil'] at hi;exact ⟨xs,hi,rfl⟩
       ·right
        rw [List.getElem?_append_right (by omega)] at hi
        have:=List.mem_of_getElem? hi
        rw [(List.mem_replicate.1 this).2]
        intro t ht
        exact (List.mem_replicate.1 ht).2
     | 1=>exact ⟨l',hl,.inl rfl⟩
     | id+2=>simp [look] at hl
    refine fin (id:=0) (R:=pads sz (cap - (l.length+1))) hrun p1 (fun k hk=>hdom k (by simpa using hk)) (fun b k=>⟨p2 b k,fun ⟨id,sz',l',loc',e1,e2,e3,e4,e5⟩=>?_⟩) (.of3 hv1' hv2 hv3) (by rw [hrows];simp [look]) (pads_ren _ _ _) (fun _ _ _ _ hv=>vhc hv)
    match id with
    | 0 =>
     simp only [look,List.getD_cons_zero,Blk.live.injEq] at e1
     obtain ⟨rfl,rfl⟩:=e1
     exact ⟨0,sz,_,loc',rfl,e2,e3,e4,e5⟩
    | 1=>exact ⟨1,sz',l',loc',e1,e2,e3,e4,e5⟩
    | id+2=>simp [look] at e1
   ·have hce:cap=l.length:=by omega
    subst hce
    have hrun:=ins_grow (ovlS ovl sz) (zs:=zs) (el:=el) (ovl:=ovl) (rot:=rot) (bytes:=bytes) (i:=j) hlt hrlen hcx hcp hLs hz hbig
    exact fin (id:=2) (R:=[]) hrun hr hdom (fun b k=>Iff.rfl) (.of3 hv1' hv2 hv3) (by rw [hrows];simp [look]) (fun xs hx=>by simp at hx) (fun _ _ _ _ hv=>vhs hv)
 ·have hj:j=l.length:=by omega
  subst hj
  cases l with
  | nil =>
   have hrun:=ins_end0 (ovlS ovl sz) (zs:=zs) (el:=el) (ovl:=ovl) (rot:=rot) (bytes:=bytes) hcx (by simpa using hbig)
   exact fin (id:=2) (R:=[]) hrun hr hdom (fun b k=>Iff.rfl) (.of3 hv1 hv2 hv3) (by rw [hrows];simp [look]) (fun xs hx=>by simp at hx) (fun _ _ _ _ hv=>vhs hv)
  | cons y ys =>
   rw [List.length_cons,ow_succ] at hv1
   have hrun:=ins_end (ovlS ovl sz) (zs:=zs) (el:=el) (ovl:=ovl) (rot:=rot) (bytes:=bytes) (n:=ys.length+1) (L:=rows (y::ys)) (by omega) (by simp) hcx hcp hbig
   exact fin (id:=2) (R:=[]) hrun hr hdom (fun b k=>Iff.rfl) (.of3 hv1 hv2 hv3) (by rw [hrows];simp [look,List.take_of_length_le,List.drop_eq_nil_of_le]) (fun xs hx=>by simp at hx) (fun _ _ _ _ hv=>vhs hv)
theorem ins_app (sz bytes:Nat) (l:List α) (i:Int) (x:α):ins_r α sz bytes [ow 0 l.length,.int .i64 i,.hs 1 0 1 true] [ob sz l,.live sz [Cel.enc x]]=(insL bytes l i x).map (insO sz):=by
 refine RmO_app (enc:=insE) (encB:=insB sz) (g:=fun a:List α×Int×α=>insL bytes a.1 a.2.1 a.2.2) (out:=insO sz) ?_ (l,i,x)
 rintro ⟨l1,i1,x1⟩ ⟨l2,i2,x2⟩ e1 e2
 simp only [insE,insB,List.cons.injEq,TV.int.injEq,true_and,and_true,Blk.live.injEq] at e1 e2
 obtain ⟨e3,e4⟩:=e1
 obtain ⟨e5,e6⟩:=e2
 have:=ob_inj e5
 have h7:x1=x2:=by have:=congrArg (Cel.dec (α:=α)) e6;rwa [Cel.back,Cel.back] at this
 rw [this,e4,h7]
def insV (bytes:Nat) (l:List α) (i:Int) (v:List α):Option (List α):=match v with
 | [x]=>insL bytes l i x
 | _=>none
omit [Cel α] in
@[simp] theorem insV_one (bytes:Nat) (l:List α) (i:Int) (x:α):insV bytes l i [x]=insL bytes l i x:=rfl
def insEV (a:List α×Int×List α):List TV:=[ow 0 a.1.length,.int .i64 a.2.1,.hs 1 0 a.2.2.length true]
def insBV (sz:Nat) (a:List α×Int×List α):List Blk:=[ob sz a.1,.live sz (rows a.2.2)]
noncomputable def ins_rV (α:Type) [Cel α] (sz bytes:Nat):MRule:=RmO (α:=List α×Int×List α) insEV (insBV sz) (fun a=>insV bytes a.1 a.2.1 a.2.2) (insO sz)
theorem ins_okV {P:Program} {f el ovl rot sz bytes:Nat} {zs:List TV} (h:Cel.sz α=sz) (hz:zs.length=sz) (hO:OvlOk P ovl sz) (hfn:FnOk P f (insertTF el zs sz bytes ovl rot)):MRuleOk P f 0 (ins_rV α sz bytes):=by
 have h1:=ins_ok h hz hO hfn (bytes:=bytes)
 refine ⟨h1.1,fun ts B r N hF=>h1.2 ts B r N ?_⟩
 unfold ins_rV RmO at hF
 split at hF
 ·rename_i hx
  obtain ⟨e1,e2⟩:=hx.choose_spec
  revert e1 e2 hF
  generalize hx.choose=a
  obtain ⟨l,i,v⟩:=a
  intro hF e1 e2
  match v with
  | [x] =>
   rw [← e1,← e2]
   have:=ins_app (α:=α) sz bytes l i x
   exact this.trans hF
  | []=>cases hF
  | x::y::v=>cases hF
 ·cases hF
theorem insV_app (sz bytes:Nat) (l:List α) (i:Int) (v:List α) {n1 n2:Nat} (h1:n1=l.length) (h2:n2=v.length) :
  ins_rV α sz bytes [ow 0 n1,.int .i64 i,.hs 1 0 n2 true] [ob sz l,.live sz (rows v)]=(insV bytes l i v).map fun r=>(ow 0 r.length,[ob sz r]):=by
 subst h1
 subst h2
 refine RmO_app (enc:=insEV) (encB:=insBV sz) (g:=fun a:List α×Int×List α=>insV bytes a.1 a.2.1 a.2.2) (out:=insO sz) ?_ (l,i,v)
 rintro ⟨l1,i1,x1⟩ ⟨l2,i2,x2⟩ e1 e2
 simp only [insEV,insBV,List.cons.injEq,TV.int.injEq,true_and,and_true,Blk.live.injEq,rows_inj] at e1 e2
 obtain ⟨e3,e4,e7⟩:=e1
 obtain ⟨e5,e6⟩:=e2
 rw [ob_inj e5,e4,e6]
theorem info_ex {P:Program} {el sz:Nat} (h:(P.info? el).map (·.size)=some sz):∃ i,P.info? el=some i∧i.size=sz:=by
 cases hi:P.info? el with
 | none=>rw [hi] at h;cases h
 | some i=>rw [hi] at h;exact ⟨i,rfl,by simpa using h⟩
end
end Go.Proofs.TM
