import Derived.RangeFuncNested
import Derived.RangeFuncLeaves
import Derived.RangeFuncBox
import Derived.Shelf.Abstract
import Derived.WalkKit
import Derived.OwnWalkIn
import Derived.TacticsInMore
import Derived.LoopNIn
import Derived.LoopIn
import Derived.BigRegionIn
import Derived.Test.YtlajjnljeebkkaaGreatDoorTRep
import Derived.Test.YtlajjnljeebkkaaGreatDoorProg
namespace Go.Proofs.TM
open Go Go.Proofs Go.RowKit Go.Shelf
attribute [local go_sem] Oper.semAt_some
abbrev NA (len:Nat):={x:Nat×Int // 0 < x.2∧x.1 < max len 1}
def backN {α:Type} (f:Nat→α) (len k:Nat):List α:=(List.range k).map fun j=>f (len - 1 - j)
theorem backN_succ {α:Type} (f:Nat→α) (len k:Nat):backN f len (k+1)=backN f len k++[f (len - 1 - k)]:=by simp [backN,List.range_succ]
theorem backN_length {α:Type} (f:Nat→α) (len k:Nat):(backN f len k).length=k:=by simp [backN]
def KB (n₀ Bs:Nat) (A B:World):Prop:=Below n₀ A B∧B.heap[Bs]?=A.heap[Bs]?
theorem KB.refl (n₀ Bs:Nat) (W:World):KB n₀ Bs W W:=⟨Below.refl _ _,rfl⟩
theorem KB.trans {n₀ Bs:Nat} {A B C:World} (h:KB n₀ Bs A B) (k:KB n₀ Bs B C):KB n₀ Bs A C:=⟨h.1.trans k.1,k.2.trans h.2⟩
set_option maxRecDepth 100000 in
set_option maxHeartbeats 2000000 in
theorem backN1_in (F:Fence) (n:Nat) (h7:F.fn 61) (hro:F.round=none) (hn:1≤n) (l Bs n₀ b off len cap:Nat) (z:Nat→NA len) (hz:∀ j,j < len→(z j).1.1=j) (hreach:len≤70368744177664) (hcap:len≤cap) (hb:b < n₀) (J Jx:List (NA len)→World→Prop)
  (hY:∀ pre x W,J pre W→pre.length < len→YieldAt F (n - 1) Tryz.prog l #[.int .i64 (x.1.1:Int),.int .i64 x.1.2] W fun e W' =>
   (e=.returned (.bool true)∧J (pre++[x]) W'∧KB n₀ Bs W W')∨(e=.returned (.bool false)∧Jx (pre++[x]) W'))
  (W:World) (hBs:W.cell? ⟨Bs,0,none⟩=some (.slice (some ⟨b,off,none⟩) len cap)) (hc:∀ j,j < len→W.cell? ⟨b,off+j,none⟩=some (.int .i64 (z j).1.2)) (h0:J [] W) :
  CallsIn F n Tryz.prog 61 #[.func (.yield l) #[] #[],.pointer (some ⟨Bs,0,none⟩)] W fun e W'=>(∃ v,e=.returned v) ∧
   ((∃ ys,ys=backN z len len∧J ys W')∨(∃ pre,(∃ k,k≤len∧pre=backN z len k)∧Jx pre W')):=by
 refine callsIn_of_wp Tryz.func61 rfl h7 ?_ hro
 simp only [Tryz.ntmps61,List.size_toArray,List.length_cons,List.length_nil,Nat.reduceAdd,Nat.reduceSub,Array.replicate_succ,Array.replicate_zero,List.push_toArray,List.append_toArray,List.nil_append,List.cons_append]
 gi_wp2
 gi_loopw [3] (fun i wr=>∃ k:Nat,k≤len∧i=.int .i64 ((len:Int) - 1 - k)∧J (backN z len k) wr∧KB n₀ Bs W wr)
  (fun i _=>(intOf i+1).toNat)
 case atStart=>exact ⟨0,Nat.zero_le _,by simp,h0,KB.refl _ _ _⟩
 case round =>
  obtain ⟨k,hk,rfl,hJs,hnx⟩:=hrel
  have hBs':wr.cell? ⟨Bs,0,none⟩=some (.slice (some ⟨b,off,none⟩) len cap):=(World.cell?_of_block (w:=W) hnx.2).trans hBs
  by_cases hlt:k < len
  ·obtain ⟨j,hj,hjl⟩:∃ j:Nat,(len:Int) - 1 - k=j∧len - 1 - k=j:=⟨len - 1 - k,by omega,rfl⟩
   have hkj:k+j+1=len:=by omega
   obtain ⟨fn,tmps,assign,body,hy,hR⟩:=hY _ (z j) wr hJs (by rw [backN_length];exact hlt)
   have hcx:=hc j (by omega)
   have hc0:wr.cell? ⟨b,off+j,none⟩=some (.int .i64 (z j).1.2):=(hnx.1.cell (p:=⟨b,off+j,none⟩) hb).trans hcx
   have hback:backN z len (k+1)=backN z len k++[z j]:=by rw [backN_succ,hjl]
   rw [hj]
   rw [hz j (by omega)] at hy
   clear hjl hj hcx
   have hjlt:j < len:=by omega
   gi_wp2
   refine hR.mono ?_
   rintro e W3 (⟨rfl,hJ3,hk3⟩ | ⟨rfl,hJx3⟩)
   ·gi_wp2
    go_roundw
    case rel=>exact ⟨k+1,by omega,by simp;omega,by rw [hback];exact hJ3,hnx.trans hk3⟩
    case measure=>simp [intOf]
   ·gi_wp2
    refine bodyPost_ret (Go.results_none rfl _ _ _) rfl ?_
    exact ⟨⟨_,rfl⟩,.inr ⟨_,⟨k+1,by omega,hback.symm⟩,hJx3⟩⟩
  ·obtain rfl:k=len:=by omega
   gi_wp2
   go_end0
   exact ⟨⟨_,rfl⟩,.inl ⟨_,rfl,hJs⟩⟩
set_option maxHeartbeats 1000000 in
theorem backN_in (F:Fence) (n:Nat) (h5:F.fn 46) (hro:F.round=none) (a:Option Addr) (len cap:Nat) (w:World) :
  CallsIn F n Tryz.prog 46 #[.slice a len cap] w fun e w'=>e=.returned (.func (.func 61) #[] #[.pointer (some ⟨w.heap.size,0,none⟩)])∧w'=w.alloc (.cells #[.slice a len cap] 23):=by
 refine callsIn_of_wp Tryz.func46 rfl h5 ?_ hro
 simp only [Tryz.ntmps46,List.size_toArray,List.length_cons,List.length_nil,Nat.reduceAdd,Nat.reduceSub,Array.replicate_succ,Array.replicate_zero,List.push_toArray,List.append_toArray,List.nil_append,List.cons_append]
 gi_wp2
 go_ret
 exact ⟨rfl,rfl⟩
set_option maxRecDepth 100000 in
set_option maxHeartbeats 1000000 in
theorem backN1_nil_in (F:Fence) (n:Nat) (h7:F.fn 61) (hro:F.round=none) {α:Type} (l Bs cap:Nat) (a:Option Addr) (J:List α→World→Prop) (W:World) (hBs:W.cell? ⟨Bs,0,none⟩=some (.slice a 0 cap)) (h0:J [] W) :
  CallsIn F n Tryz.prog 61 #[.func (.yield l) #[] #[],.pointer (some ⟨Bs,0,none⟩)] W fun e W'=>(∃ v,e=.returned v)∧J [] W':=by
 refine callsIn_of_wp Tryz.func61 rfl h7 ?_ hro
 simp only [Tryz.ntmps61,List.size_toArray,List.length_cons,List.length_nil,Nat.reduceAdd,Nat.reduceSub,Array.replicate_succ,Array.replicate_zero,List.push_toArray,List.append_toArray,List.nil_append,List.cons_append]
 gi_wp2
 gi_loopw [3] (fun i wr=>i=.int .i64 (-1)∧J [] wr) (fun _ _=>0)
 case atStart=>exact ⟨by simp,h0⟩
 case round =>
  obtain ⟨rfl,hJs⟩:=hrel
  gi_wp2
  go_end0
  exact ⟨⟨_,rfl⟩,hJs⟩
def Nums (n₀:Nat) (W:World) (sv:Value) (len:Nat) (z:Nat→NA len):Prop :=
 (∃ a cap,sv=.slice a 0 cap∧len=0)∨∃ b off cap,sv=.slice (some ⟨b,off,none⟩) len cap∧len≤cap∧b < n₀∧∀ j,j < len→W.cell? ⟨b,off+j,none⟩=some (.int .i64 (z j).1.2)
theorem Nums.below {n₀:Nat} {A B:World} (h:Below n₀ A B) {sv:Value} {len:Nat} {z:Nat→NA len}:Nums n₀ A sv len z→Nums n₀ B sv len z
 | .inl e=>.inl e
 | .inr ⟨b,off,cap,e,hc,hb,hz⟩=>.inr ⟨b,off,cap,e,hc,hb,fun j hj=>(h.cell (p:=⟨b,off+j,none⟩) hb).trans (hz j hj)⟩
theorem backN_stops (F:Fence) (n:Nat) (h7:F.fn 61) (hro:F.round=none) (hn:1≤n) (Bs:Nat) (sv:Value) (len:Nat) (z:Nat→NA len) (hz:∀ j,j < len→(z j).1.1=j) (hreach:len≤70368744177664) (w:World) (n₀:Nat) (hn0:n₀≤w.heap.size) (hBs:Bs < w.heap.size)
  (hc:w.cell? ⟨Bs,0,none⟩=some sv) (hI:Nums n₀ w sv len z) :
  SeqStopsK F n Tryz.prog 61 #[.pointer (some ⟨Bs,0,none⟩)] (fun x:NA len=>#[Value.int .i64 (x.1.1:Int),.int .i64 x.1.2]) (KB n₀ Bs) (fun ys=>ys=backN z len len)
   (fun pre=>∃ k,k≤len∧pre=backN z len k) len w:=fun l J Jx W hW _ _ hY h0=>by
 have hc':=(hW.cell (p:=⟨Bs,0,none⟩) hBs).trans hc
 rcases hI.below (hW.mono hn0) with ⟨a,cap,rfl,rfl⟩ | ⟨b,off,cap,rfl,hcap,hb,hcs⟩
 ·exact (backN1_nil_in F n h7 hro l Bs cap a J W hc' h0).mono fun e W' ⟨he,hj⟩=>⟨he,.inl ⟨_,rfl,hj⟩⟩
 ·exact backN1_in F n h7 hro hn l Bs n₀ b off len cap z hz hreach hcap hb J Jx hY W hc' hcs h0
theorem cellsN_own {σ:Type} {n₀:Nat} (B:Nat) (o:σ→Obj) (ho:∀ s,(o s).isCells=true):OwnFrom n₀ (fun (s:σ) W=>W.heap[B]?=some (o s)):=by
 intro s X Y row h hg hr
 have hlt:B < X.heap.size:=(Array.getElem?_eq_some_iff.1 h).1
 refine (hg.block B hlt (fun e=>?_)).trans h
 obtain ⟨_,o',h1,h2⟩:=hr B e.symm
 rw [h] at h1;cases h1
 rw [ho s] at h2;cases h2
def coordF {len:Nat} (q:Int) (out:List Int) (pre:List (NA len)):Int×List Int:=pre.foldl (fun s x=>(s.1 / x.1.2,s.2.set x.1.1 (s.1 % x.1.2))) (q,out)
theorem coordF_snoc {len:Nat} (q:Int) (out:List Int) (pre:List (NA len)) (x:NA len):coordF q out (pre++[x])=((coordF q out pre).1 / x.1.2,(coordF q out pre).2.set x.1.1 ((coordF q out pre).1 % x.1.2)):=by simp [coordF]
theorem coordF_len {len:Nat} (q:Int) (out:List Int) (pre:List (NA len)):(coordF q out pre).2.length=out.length:=by
 induction pre generalizing q out with
 | nil=>rfl
 | cons a l ih=>exact (ih _ _).trans (by simp)
theorem coordF_in {len:Nat} {q:Int} (h0:0≤q) (out:List Int) (pre:List (NA len)):0≤(coordF q out pre).1∧(coordF q out pre).1≤q:=by
 induction pre generalizing q out with
 | nil=>exact ⟨h0,Int.le_refl _⟩
 | cons a l ih =>
  have h1:=ih (q:=q / a.1.2) (Int.ediv_nonneg h0 (Int.le_of_lt a.2.1)) (out.set a.1.1 (q % a.1.2))
  exact ⟨h1.1,Int.le_trans h1.2 (Int.ediv_le_self _ h0)⟩
set_option maxRecDepth 100000 in
set_option maxHeartbeats 4000000 in
theorem coords_in (hmk0:∀ (len:Nat) (w:World),len≤35184372088832→(Instr.makeSlice 23 (.int .i64 (len:Int)) (.int .i64 (len:Int))).run Tryz.prog w=.ok (.slice (some ⟨w.heap.size,0,none⟩) len len) (w.alloc (.cells (List.replicate len (Value.int .i64 0)).toArray 2))) (F:Fence) (n:Nat) (h87:F.fn 29) (h128:F.fn 46) (h146:F.fn 61) (hro:F.round=none) (hn:6≤n) (a:Option Addr) (len cap:Nat) (index:Int) (z:Nat→NA len) (hz:∀ j,j < len→(z j).1.1=j) (hreach:len≤35184372088832) (hi0:0≤index) (hi1:index≤9223372036854775807) (w:World)
  (hI:Nums w.heap.size w (.slice a len cap) len z) :
  CallsIn F n Tryz.prog 29 #[.slice a len cap,.int .i64 index] w fun e W'=>e=.returned (.slice (some ⟨w.heap.size+1,0,none⟩) len len)∧Below w.heap.size w W'∧W'.heap[w.heap.size+1]?=some (.cells ((coordF index (List.replicate len 0) (backN z len len)).2.map (Value.int .i64)).toArray 2):=by
 have h1:1≤n:=by omega
 have hmk:=fun w=>hmk0 len w hreach
 obtain ⟨st,hst⟩:∃ st:List (NA len)→Int×List Int,st=coordF index (List.replicate len 0):=⟨_,rfl⟩
 have hs0:st []=(index,List.replicate len 0):=by rw [hst];rfl
 have hs1:∀ pre x,st (pre++[x])=((st pre).1 / x.1.2,(st pre).2.set x.1.1 ((st pre).1 % x.1.2)):=fun pre x=>by rw [hst];exact coordF_snoc _ _ _ _
 have hs2:∀ pre,(st pre).2.length=len:=fun pre=>by rw [hst,coordF_len];simp
 have hs3:∀ pre,0≤(st pre).1∧(st pre).1≤9223372036854775807:=fun pre=>by rw [hst];have:=coordF_in hi0 (List.replicate len 0) pre;omega
 rw [← hst]
 clear hst
 refine callsIn_of_wp_marks Tryz.func29 rfl h87 ?_ hro
 simp only [Tryz.ntmps29,List.size_toArray,List.length_cons,List.length_nil,Nat.reduceAdd,Nat.reduceSub,Array.replicate_succ,Array.replicate_zero,List.push_toArray,List.append_toArray,List.nil_append,List.cons_append]
 gi_wp2_with (gi_at_call 46;refine (backN_in F (n - 1) h128 hro _ _ _ _).mono ?_;rintro e w' ⟨rfl,rfl⟩)
 have hrep:Array.replicate len (Value.int .i64 0)=((List.replicate len (0:Int)).map (Value.int .i64)).toArray:=by simp
 rw [hrep]
 obtain ⟨o1,ho1⟩:∃ o1:Obj,o1=.cells ((List.replicate len (0:Int)).map (Value.int .i64)).toArray 2:=⟨_,rfl⟩
 have bD:((((w.alloc (.cells #[.int .i64 index] 2)).alloc o1).alloc (.cells #[.slice (some ⟨w.heap.size+1,0,none⟩) len len] 23)).alloc (.cells #[.slice a len cap] 23)).heap[w.heap.size+1]?=some o1 :=
  (Below.heap_alloc _ _ _ (by simp)).trans ((Below.heap_alloc _ _ _ (by simp)).trans (by have:=World.alloc_heap_new (w.alloc (.cells #[.int .i64 index] 2)) o1;rwa [World.size_alloc] at this))
 have bK:=((((Boxed.new w 2 (.int .i64 index)).alloc o1).alloc (.cells #[.slice (some ⟨w.heap.size+1,0,none⟩) len len] 23))).alloc (.cells #[.slice a len cap] 23)
 have bR:=(Boxed.new ((w.alloc (.cells #[.int .i64 index] 2)).alloc o1) 23 (.slice (some ⟨w.heap.size+1,0,none⟩) len len)).alloc (.cells #[.slice a len cap] 23)
 have bS:=Boxed.new (((w.alloc (.cells #[.int .i64 index] 2)).alloc o1).alloc (.cells #[.slice (some ⟨w.heap.size+1,0,none⟩) len len] 23)) 23 (.slice a len cap)
 simp only [World.size_alloc] at bK bR bS
 rw [← ho1]
 have hB0:Below w.heap.size w ((((w.alloc (.cells #[.int .i64 index] 2)).alloc o1).alloc (.cells #[.slice (some ⟨w.heap.size+1,0,none⟩) len len] 23)).alloc (.cells #[.slice a len cap] 23)) :=
  ((((Below.refl _ w).alloc (Nat.le_refl _) _).alloc (by simp) _).alloc (by simp;omega) _).alloc (by simp;omega) _
 have hsz:((((w.alloc (.cells #[.int .i64 index] 2)).alloc o1).alloc (.cells #[.slice (some ⟨w.heap.size+1,0,none⟩) len len] 23)).alloc (.cells #[.slice a len cap] 23)).heap.size=w.heap.size+4:=by simp
 obtain ⟨W0,hW0⟩:∃ W0,((((w.alloc (.cells #[.int .i64 index] 2)).alloc o1).alloc (.cells #[.slice (some ⟨w.heap.size+1,0,none⟩) len len] 23)).alloc (.cells #[.slice a len cap] 23))=W0:=⟨_,rfl⟩
 rw [hW0] at bD bK bR bS hB0 hsz ⊢
 clear hW0
 subst ho1
 have hI0:Nums w.heap.size W0 (.slice a len cap) len z:=hI.below hB0
 refine wpIn_rangeFunc_ownH hro h1 (gf:=61) (lb:=#[.pointer (some ⟨w.heap.size+1+1+1,0,none⟩)]) rfl h146 (enters_of Tryz.func61 (by kernel_rfl) rfl)
  (backN_stops F (n - 1) h146 hro (by omega) (w.heap.size+1+1+1) (.slice a len cap) len z hz (by omega) W0 w.heap.size (by omega) (by omega) bS.cell hI0) KB.trans (fun W l o o' hl h _ _=>⟨belowK_b (w:=W0) (by omega) W l o o' hl h (by assumption) (by assumption),World.putObj_heap_other (by omega)⟩) (Below.refl _ _) (fun _=>rfl)
  (fun pre W=>((W.heap[w.heap.size+1]?=some (.cells ((st pre).2.map (Value.int .i64)).toArray 2 (0,0))∧Boxed W w.heap.size 2 (.int .i64 (st pre).1))∧(Boxed W (w.heap.size+1+1) 23 (.slice (some ⟨w.heap.size+1,0,none⟩) len len)∧Boxed W (w.heap.size+1+1+1) 23 (.slice a len cap)))∧Below w.heap.size w W)
  (fun c pre W=>False)
  ?hI ?hIx ?h0
  (fun x a' W=>a'={ tmps:=#[.slice a len cap,.int .i64 index,undef,.pointer (some ⟨w.heap.size,0,none⟩),.slice none 0 0,.pointer (some ⟨w.heap.size+1+1,0,none⟩),.int .i64 (x.1.1:Int),.int .i64 x.1.2,.slice a len cap,.int .i64 (len:Int),.slice (some ⟨w.heap.size+1,0,none⟩) len len,.slice a len cap,.func (.func 61) #[] #[.pointer (some ⟨w.heap.size+1+1+1,0,none⟩)],.int .i64 (x.1.1:Int),.int .i64 x.1.2,undef,undef,undef,undef,undef,undef,undef,undef,undef,undef],defers:=[] })
  ?hAx ?assign ?body ?done ?stop
 case hI=>exact OwnFrom.and (OwnFrom.and (OwnFrom.and (cellsN_own _ (fun _=>_) (fun _=>rfl)) (Own.from (boxed_own _ _ _) _)) (OwnFrom.and (Own.from (boxed_own _ _ _) _) (Own.from (boxed_own _ _ _) _))) (ownFrom_below (Nat.le_refl _) (by omega))
 case hIx=>exact fun c _ _ _ _ hs _ _=>hs
 case h0=>exact ⟨⟨⟨by rw [hs0];exact bD,by rw [hs0];exact bK⟩,bR,bS⟩,hB0⟩
 case hAx=>exact fun x a' _ _ _ _ hs _ _=>hs
 case assign =>
  rintro l pre x W K ⟨⟨⟨bD1,bK1⟩,bR1,bS1⟩,hB1⟩ hK
  gi_wp2
  exact hK _ _ (KeepsFrom.refl _ _) (KB.refl _ _ _) ⟨⟨⟨bD1,bK1⟩,bR1,bS1⟩,hB1⟩ rfl
 case body =>
  rintro l pre x a' W hl ⟨r,hr⟩ ⟨⟨⟨bD1,bK1⟩,bR1,bS1⟩,hB1⟩ rfl hlt
  have cK:=bK1.cell
  have cR:=bR1.cell
  have fK:=bK1.frozen
  have hx1:x.1.1 < len:=by have:=x.2.2;omega
  have hx2:=x.2.1
  obtain ⟨q0,q1⟩:=hs3 pre
  have hm:Tryz.prog.follows .mixedOrders=true:=by kernel_rfl
  have hlen:=hs2 pre
  have hnew:=hs1 pre x
  obtain ⟨⟨i,d⟩,hx⟩:=x
  simp only at hx1 hx2 hnew ⊢
  obtain ⟨u,hu⟩:∃ u,(st pre).2[i]?=some u:=⟨_,List.getElem?_eq_getElem (by omega)⟩
  have cD:W.cell? ⟨w.heap.size+1,i,none⟩=some (.int .i64 u):=by simp [World.cell?,bD1,hu]
  have fD:W.frozen? ⟨w.heap.size+1,i,none⟩=false:=by simp [World.frozen?,bD1]
  have hd0:d ≠ 0:=by omega
  have hq0:(st pre).1.tmod d=(st pre).1 % d:=Int.tmod_eq_emod_of_nonneg q0
  obtain ⟨W1,hW1⟩:∃ W1,W1=W.setCell ⟨w.heap.size+1,i,none⟩ (.int .i64 ((st pre).1 % d)):=⟨_,rfl⟩
  have h0:∀ k,k ≠ w.heap.size+1→W1.heap[k]?=W.heap[k]?:=fun k hk=>by rw [hW1];exact Below.heap_setCell _ _ _ _ hk
  have bK2:Boxed W1 w.heap.size 2 (.int .i64 (st pre).1):=(h0 _ (by omega)).trans bK1
  have bR2:Boxed W1 (w.heap.size+1+1) 23 (.slice (some ⟨w.heap.size+1,0,none⟩) len len):=(h0 _ (by omega)).trans bR1
  have bS2:Boxed W1 (w.heap.size+1+1+1) 23 (.slice a len cap):=(h0 _ (by omega)).trans bS1
  have hk1:KeepsOthers W W1:=by rw [hW1];exact KeepsOthers.setCell _ _ _
  have hb1:Below w.heap.size W W1:=by rw [hW1];exact (Below.refl _ W).setCell (p:=⟨w.heap.size+1,i,none⟩) (by simp) _
  have bD2:W1.heap[w.heap.size+1]?=some (.cells (((st pre).2.set i ((st pre).1 % d)).map (Value.int .i64)).toArray 2 (0,0)):=by
   rw [hW1]
   have hlt:w.heap.size+1 < W.heap.size:=(Array.getElem?_eq_some_iff.1 bD1).1
   show (W.heap.modify (w.heap.size+1) _)[w.heap.size+1]?=_
   rw [Array.getElem?_eq_getElem (by rw [Array.size_modify];exact hlt),Array.getElem_modify_self,(Array.getElem?_eq_some_iff.1 bD1).2]
   simp [List.map_set]
  have h2:∀ k,k ≠ w.heap.size→((W1.setCell ⟨w.heap.size,0,none⟩ (.int .i64 ((st pre).1 / d))).drew).heap[k]?=W1.heap[k]?:=fun k hk=>Below.heap_setCell _ _ _ _ hk
  have hfin:KeepsFrom W0.heap.size W (W1.setCell ⟨w.heap.size,0,none⟩ (.int .i64 ((st pre).1 / d))).drew∧KB w.heap.size (w.heap.size+1+1+1) W (W1.setCell ⟨w.heap.size,0,none⟩ (.int .i64 ((st pre).1 / d))).drew ∧
    (((W1.setCell ⟨w.heap.size,0,none⟩ (.int .i64 ((st pre).1 / d))).drew.heap[w.heap.size+1]?=some (.cells ((st (pre++[⟨(i,d),hx⟩])).2.map (Value.int .i64)).toArray 2 (0,0))∧Boxed (W1.setCell ⟨w.heap.size,0,none⟩ (.int .i64 ((st pre).1 / d))).drew w.heap.size 2 (.int .i64 (st (pre++[⟨(i,d),hx⟩])).1))∧(Boxed (W1.setCell ⟨w.heap.size,0,none⟩ (.int .i64 ((st pre).1 / d))).drew (w.heap.size+1+1) 23 (.slice (some ⟨w.heap.size+1,0,none⟩) len len)∧Boxed (W1.setCell ⟨w.heap.size,0,none⟩ (.int .i64 ((st pre).1 / d))).drew (w.heap.size+1+1+1) 23 (.slice a len cap)))∧Below w.heap.size w (W1.setCell ⟨w.heap.size,0,none⟩ (.int .i64 ((st pre).1 / d))).drew:=by
   have hB2:Below w.heap.size W (W1.setCell ⟨w.heap.size,0,none⟩ (.int .i64 ((st pre).1 / d))).drew:=(hb1.setCell (p:=⟨w.heap.size,0,none⟩) (Nat.le_refl _) _).drew
   refine ⟨(hk1.trans ((KeepsOthers.setCell _ _ _).trans (KeepsOthers.drew _))).from _,⟨hB2,(h2 _ (by omega)).trans (h0 _ (by omega))⟩,⟨⟨?_,?_⟩,(h2 _ (by omega)).trans bR2,(h2 _ (by omega)).trans bS2⟩,hB1.trans hB2⟩
   ·rw [hnew];exact (h2 _ (by omega)).trans bD2
   ·rw [hnew];exact bK2.set _
  rw [hW1] at hfin
  gi_wp2
  gi_region
  all_goals gi_wp2
  all_goals exact hfin
 case done =>
  rintro D xs W hD rfl ⟨⟨⟨bD1,bK1⟩,bR1,bS1⟩,hB1⟩ hK
  have cR:=bR1.cell
  gi_wp2
  refine ⟨by simp,.inl ⟨_,_,rfl,run_takeDeferred hK,?_⟩⟩
  refine ⟨.slice (some ⟨w.heap.size+1,0,none⟩) len len,?_,rfl,hB1.trans (belowK_b (w:=w) (Nat.le_refl _) W D _ _ (by omega) hK rfl rfl),(World.putObj_heap_other (by omega)).trans bD1⟩
  simp [Go.results,Tryz.f29,go_sem]
 case stop =>
  rintro D c pre W hD ⟨k,hk,hpre⟩ h
  exact h.elim
def coordG:List Int→Int→List Int×Int
 | [],i=>([],i)
 | d::ds,i=>(((coordG ds i).2 % d)::(coordG ds i).1,(coordG ds i).2 / d)
def coordL (dims:List Int) (i:Int):List Int:=(coordG dims i).1
theorem coordG_len (dims:List Int) (i:Int):(coordG dims i).1.length=dims.length:=by
 induction dims with
 | nil=>rfl
 | cons d ds ih=>simp [coordG,ih]
theorem coordF_back (dims:List Int) (index:Int) (z:Nat→NA dims.length) (hz:∀ j (hj:j < dims.length),(z j).1=(j,dims[j])) :
  ∀ k,k≤dims.length→coordF index (List.replicate dims.length 0) (backN z dims.length k)=((coordG (dims.drop (dims.length - k)) index).2,List.replicate (dims.length - k) 0++(coordG (dims.drop (dims.length - k)) index).1):=by
 intro k
 induction k with
 | zero=>intro _;simp [backN,coordF,coordG]
 | succ k ih =>
  intro hk
  have hj:dims.length - 1 - k < dims.length:=by omega
  rw [backN_succ,coordF_snoc,ih (by omega),hz _ hj]
  obtain ⟨m,hm⟩:∃ m,dims.length - (k+1)=m:=⟨_,rfl⟩
  have e1:dims.length - 1 - k=m:=by omega
  have e2:dims.length - k=m+1:=by omega
  rw [hm,e2]
  simp only [e1]
  have hd:dims.drop m=dims[m]'(by omega)::dims.drop (m+1):=List.drop_eq_getElem_cons (by omega)
  rw [hd,coordG]
  simp only [Prod.mk.injEq,true_and]
  rw [List.replicate_succ',List.append_assoc,List.set_append_right _ _ (by simp)]
  simp
theorem coordF_all (dims:List Int) (index:Int) (z:Nat→NA dims.length) (hz:∀ j (hj:j < dims.length),(z j).1=(j,dims[j])) :
  (coordF index (List.replicate dims.length 0) (backN z dims.length dims.length)).2=coordL dims index:=by
 rw [coordF_back dims index z hz _ (Nat.le_refl _)]
 simp [coordL]
open Classical in
noncomputable def coordS (dims:List Int) (i:Int):Option (List Int):=if 0≤i∧i≤9223372036854775807∧dims.length≤35184372088832∧∀ d ∈ dims,0 < d then some (coordL dims i) else none
noncomputable def coord_r:Rule:=RlO (fun (a:List Int×Int)=>[.vs (rows a.1),.int .i64 a.2]) (fun a=>coordS a.1 a.2) (fun r=>(.hs 0 0 r.length true,[.live 1 (rows r)]))
theorem coordS_app (l:List Int) (i:Int):coord_r [.vs (rows l),.int .i64 i]=(coordS l i).map (fun r=>(.hs 0 0 r.length true,[.live 1 (rows r)])) :=
 RlO_app (enc:=fun (a:List Int×Int)=>[.vs (rows a.1),.int .i64 a.2]) (g:=fun a=>coordS a.1 a.2) (by rintro ⟨a,b⟩ ⟨c,d⟩ h;simpa using h) (l,i)
theorem ints_new {w:World} {I:Nat→Nat→Prop} (hI:Lt w I) (r:List Int) (ty B:Nat) (w':World) (hx:Ext w w') (hB:w.heap.size≤B) (hb:w'.heap[B]?=some (.cells (r.map (Value.int .i64)).toArray ty (0,0))) :
  ∃ (I':Nat→Nat→Prop) (μ':Mu),Ext w w'∧(∀ b k,I b k→I' b k)∧(∀ b k,I' b k→I b k∨w.heap.size≤b)∧HR w' I' μ' (look [.live 1 (rows r)]) ∧
   VR w' I' μ' (.hs 0 0 r.length true) (.slice (some ⟨B,0,none⟩) r.length r.length)∧(∀ b k,Foot μ' (look [.live 1 (rows r)]) b k→w.heap.size≤b)∧(∀ id loc,μ' id=some loc→id < 1):=by
 have hl:∀ id sz l,look [Blk.live 1 (rows r)] id=.live sz l→id=0∧sz=1∧l=rows r:=fun id sz l h=>by
  rw [look_live] at h
  cases id with
  | zero=>simp at h;exact ⟨rfl,h.1.symm,h.2.symm⟩
  | succ id=>simp at h
 refine ⟨I,fun id=>if id=0 then some ⟨B,0,1,r.length,ty,r.length⟩ else none,hx,fun _ _ h=>h,fun _ _ h=>.inl h,⟨fun id sz l h=>?_,fun id id' sz l sz' l' loc loc' h h' hne _ _ _ k _ _ _ _=>?_,fun b k hf hi=>?_,hI.same hx⟩,?_,fun b k hf=>?_,fun id loc h=>?_⟩
 ·obtain ⟨rfl,rfl,rfl⟩:=hl id sz l h
  refine ⟨_,_,_,_,rfl,hb,rfl,⟨rfl,by simp⟩,by simp,?_,fun k _ _=>by simp [frz],fun xs hx=>?_,fun i ys k t hi hk=>?_⟩
  ·simp [rows_length]
  ·obtain ⟨s,_,rfl⟩:=List.mem_map.1 hx;rfl
  ·rw [rows_get,Option.map_eq_some_iff] at hi
   obtain ⟨s,hs,rfl⟩:=hi
   have:k=0∧t=.int .i64 s:=by
    cases k with
    | zero=>simp [Cel.enc] at hk;exact ⟨rfl,hk.symm⟩
    | succ k=>simp [Cel.enc] at hk
   obtain ⟨rfl,rfl⟩:=this
   exact ⟨.int .i64 s,by simp [hs],.int _ _ _⟩
 ·have e1:=(hl _ _ _ h).1
  have e2:=(hl _ _ _ h').1
  exact hne (e1.trans e2.symm)
 ·obtain ⟨id,sz,l,loc,h1,h2,h3,_,_⟩:=hf
  obtain ⟨rfl,rfl,rfl⟩:=hl id sz l h1
  simp only [if_true,Option.some.injEq] at h2
  subst h2
  have:=hI b k hi
  simp only at h3
  omega
 ·exact .hs _ 0 0 r.length true _ _ _ rfl (.inr (by simp)) (Nat.le_refl _) (by simp) fun _=>⟨rfl,_,_,_,hb,by simp⟩
 ·obtain ⟨id,sz,l,loc,h1,h2,h3,_,_⟩:=hf
  obtain ⟨rfl,rfl,rfl⟩:=hl id sz l h1
  simp only [if_true,Option.some.injEq] at h2
  subst h2
  simp only at h3
  omega
 ·simp only at h
  split at h
  ·omega
  ·cases h
theorem coord_ok:RuleOk Tryz.prog 29 coord_r:=by
 refine ⟨⟨_,Tryz.func29,by kernel_rfl,by kernel_rfl⟩,fun ts r N hF w I vs hI hvs=>?_⟩
 unfold coord_r RlO at hF
 split at hF
 case isFalse=>cases hF
 rename_i hx
 have h1:=hx.choose_spec
 revert h1 hF
 generalize hx.choose=p
 obtain ⟨l,i⟩:=p
 rintro hF rfl
 simp only [coordS] at hF
 split at hF
 case isFalse=>cases hF
 rename_i hc
 obtain ⟨c0,c1,c2,c3⟩:=hc
 simp only [Option.map_some,Option.some.injEq,Prod.mk.injEq] at hF
 obtain ⟨rfl,rfl⟩:=hF
 obtain ⟨v0,v1,rfl,h0,h1⟩:∃ v0 v1,vs=#[v0,v1]∧VR w I Mu.none (.vs (rows l)) v0∧VR w I Mu.none (.int .i64 i) v1:=by
  obtain ⟨hlen,hk⟩:=hvs
  obtain ⟨vs⟩:=vs
  match vs,hlen with
  | [x,y],_=>exact ⟨x,y,rfl,hk 0 _ _ rfl rfl,hk 1 _ _ rfl rfl⟩
 have h1:v1=.int .i64 i:=by cases h1;rfl
 subst h1
 let z:Nat→NA l.length:=fun j=>if hj:j < l.length then ⟨(j,l[j]),c3 _ (List.getElem_mem _),by simp only;omega⟩ else ⟨(0,1),by decide,by simp only;omega⟩
 have hz:∀ j (hj:j < l.length),(z j).1=(j,l[j]):=fun j hj=>by simp only [z,dif_pos hj]
 obtain ⟨a,cap,rfl,hN⟩:∃ a cap,v0=.slice a l.length cap∧Nums w.heap.size w (.slice a l.length cap) l.length z:=by
  generalize ht:TV.vs _=t at h0
  cases h0 <;> try (cases ht;done)
  rename_i l' a cap sz b o val hcap ha hsz hc hv
  cases ht
  rw [rows_length] at *
  refine ⟨a,cap,rfl,?_⟩
  cases l with
  | nil=>exact .inl ⟨a,cap,rfl,rfl⟩
  | cons x p =>
   obtain rfl:=ha (by simp [rows])
   have hsz2:sz=1:=(hsz (Cel.enc x) (by simp [rows])).symm
   subst hsz2
   have hat:∀ j (hj:j < (x::p).length),(rows (x::p))[j]?=some (Cel.enc (x::p)[j]):=fun j hj=>by
    rw [rows_get,List.getElem?_eq_getElem hj];rfl
   refine .inr ⟨b,o,cap,rfl,hcap.1,hI _ _ (hc 0 _ 0 _ (hat 0 (by simp)) rfl).1,fun j hj=>?_⟩
   have a0:=hc j _ 0 _ (hat j hj) rfl
   have b0:=hv j _ 0 _ (hat j hj) rfl
   have e:val j 0=.int .i64 (x::p)[j]:=by
    generalize val j 0=y at b0
    cases b0;rfl
   rw [show o+j=o+j * 1+0 by omega,a0.2,e,hz j hj]
 have hmk:∀ (len:Nat) (w:World),len≤35184372088832→(Instr.makeSlice 23 (.int .i64 (len:Int)) (.int .i64 (len:Int))).run Tryz.prog w=.ok (.slice (some ⟨w.heap.size,0,none⟩) len len) (w.alloc (.cells (List.replicate len (Value.int .i64 0)).toArray 2)):=fun len w hlen=>by
  have h0:(Tryz.prog.info? 2).map (fun i=>(i.zero,i.size,i.bytes))=some (some (.int .i64 0),1,8):=by kernel_rfl
  obtain ⟨i,hi,h0⟩:=Option.map_eq_some_iff.1 h0
  simp only [Prod.mk.injEq] at h0
  obtain ⟨hz,hs,hb⟩:=h0
  have hr:=run_make (P:=Tryz.prog) w 23 2 i _ (by kernel_rfl) hi hz .i64 .i64 (len:Int) (len:Int) (by omega) (Int.le_refl _) (by rw [hb];omega) (by omega)
  have hcs:madeCells (Value.int .i64 0).cells len=(List.replicate len (Value.int .i64 0)).toArray:=by
   apply Array.ext'
   apply List.ext_getElem?
   intro j
   simp only [madeCells,Value.cells,Array.toList_map,Array.toList_range,List.getElem?_map,List.getElem?_replicate]
   by_cases hj:j < len
   ·simp [hj,Nat.mod_one]
   ·simp [hj]
  rw [hs,Int.toNat_natCast,Nat.mul_one,hcs] at hr
  exact hr
 have hz1:∀ j,j < l.length→(z j).1.1=j:=fun j hj=>by rw [hz j hj]
 refine ((callsIn_wide (n:=6)).1 (coords_in hmk Fence.wide 6 trivial trivial trivial rfl (by omega) a l.length cap i z hz1 c2 c0 c1 w hN)).mono ?_
 rintro e w' ⟨rfl,hb,hcell⟩
 rw [coordF_all l i z hz] at hcell
 have hx:Ext w w':=⟨hb.os,hb.tape,hb.output,hb.size,hb.block⟩
 have hlen:(coordL l i).length=l.length:=coordG_len l i
 obtain ⟨I',μ',g1,g2,g3,g4,g5,g6,g7⟩:=ints_new hI (coordL l i) _ _ w' hx (by omega) hcell
 refine ⟨_,I',μ',rfl,g1,g2,g3,g4,?_,g6,g7⟩
 rw [hlen] at g5 ⊢
 exact g5
end Go.Proofs.TM
