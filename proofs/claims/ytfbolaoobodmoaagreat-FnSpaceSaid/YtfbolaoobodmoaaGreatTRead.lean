import Derived.RangeFuncNested
import Derived.RangeFuncLeaves
import Derived.RangeFuncBox
import Derived.Shelf.Abstract
import Derived.WalkKit
import Derived.OwnWalkIn
import Derived.TacticsInMore
import Derived.LoopNIn
import Derived.LoopIn
import Derived.Test.YtfbolaoobodmoaaGreatTRep
import Derived.Test.YtfbolaoobodmoaaGreatProg
namespace Go.Proofs.TM
open Go Go.Proofs Go.RowKit Go.Shelf
attribute [local go_sem] Oper.semAt_some
def back {α:Type} (f:Nat→α) (len k:Nat):List α:=(List.range k).map fun j=>f (len - 1 - j)
theorem back_succ {α:Type} (f:Nat→α) (len k:Nat):back f len (k+1)=back f len k++[f (len - 1 - k)]:=by simp [back,List.range_succ]
theorem back_length {α:Type} (f:Nat→α) (len k:Nat):(back f len k).length=k:=by simp [back]
set_option maxRecDepth 100000 in
set_option maxHeartbeats 2000000 in
theorem back1_in (F:Fence) (n:Nat) (h7:F.fn 160) (hro:F.round=none) (hn:1≤n) (l Bs n₀ b off len cap:Nat) (z:Nat→Nat×Int×ByteArray) (hz:∀ j,(z j).1=j) (hreach:len≤70368744177664) (hcap:len≤cap) (hb:b < n₀) (J Jx:List (Nat×Int×ByteArray)→World→Prop)
  (hY:∀ pre x W,J pre W→pre.length < len→YieldAt F (n - 1) Tryz.prog l #[.int .i64 (x.1:Int),.agg #[.int .i64 x.2.1,.string x.2.2]] W fun e W' =>
   (e=.returned (.bool true)∧J (pre++[x]) W'∧Below n₀ W W')∨(e=.returned (.bool false)∧Jx (pre++[x]) W'))
  (W:World) (hBs:W.cell? ⟨Bs,0,none⟩=some (.slice (some ⟨b,off,none⟩) len cap)) (hBsn:Bs < n₀) (hc:∀ j,j < len→W.cell? ⟨b,off+j * 2,none⟩=some (.int .i64 (z j).2.1)∧W.cell? ⟨b,off+j * 2+1,none⟩=some (.string (z j).2.2)) (h0:J [] W) :
  CallsIn F n Tryz.prog 160 #[.func (.yield l) #[] #[],.pointer (some ⟨Bs,0,none⟩)] W fun e W'=>(∃ v,e=.returned v) ∧
   ((∃ ys,ys=back z len len∧J ys W')∨(∃ pre,(∃ k,k≤len∧pre=back z len k)∧Jx pre W')):=by
 refine callsIn_of_wp Tryz.func160 rfl h7 ?_ hro
 simp only [Tryz.ntmps160,List.size_toArray,List.length_cons,List.length_nil,Nat.reduceAdd,Nat.reduceSub,Array.replicate_succ,Array.replicate_zero,List.push_toArray,List.append_toArray,List.nil_append,List.cons_append]
 gi_wp2
 gi_loopw [3] (fun i wr=>∃ k:Nat,k≤len∧i=.int .i64 ((len:Int) - 1 - k)∧J (back z len k) wr∧Below n₀ W wr)
  (fun i _=>(intOf i+1).toNat)
 case atStart=>exact ⟨0,Nat.zero_le _,by simp,h0,Below.refl _ _⟩
 case round =>
  obtain ⟨k,hk,rfl,hJs,hnx⟩:=hrel
  have hBs':wr.cell? ⟨Bs,0,none⟩=some (.slice (some ⟨b,off,none⟩) len cap):=(hnx.cell (p:=⟨Bs,0,none⟩) hBsn).trans hBs
  by_cases hlt:k < len
  ·obtain ⟨j,hj,hjl⟩:∃ j:Nat,(len:Int) - 1 - k=j∧len - 1 - k=j:=⟨len - 1 - k,by omega,rfl⟩
   have hkj:k+j+1=len:=by omega
   obtain ⟨fn,tmps,assign,body,hy,hR⟩:=hY _ (z j) wr hJs (by rw [back_length];exact hlt)
   have hcx:=hc j (by omega)
   have hc0:wr.cell? ⟨b,off+j * 2,none⟩=some (.int .i64 (z j).2.1):=(hnx.cell (p:=⟨b,off+j * 2,none⟩) hb).trans hcx.1
   have hc1:wr.cell? ⟨b,off+j * 2+1,none⟩=some (.string (z j).2.2):=(hnx.cell (p:=⟨b,off+j * 2+1,none⟩) hb).trans hcx.2
   have hback:back z len (k+1)=back z len k++[z j]:=by rw [back_succ,hjl]
   rw [hj]
   rw [hz] at hy
   clear hjl hj hcx
   have hjlt:j < len:=by omega
   gi_wp2
   refine hR.mono ?_
   rintro e W3 (⟨rfl,hJ3,hk3⟩ | ⟨rfl,hJx3⟩)
   ·gi_wp2
    go_roundw
    case rel=>exact ⟨k+1,by omega,by simp;omega,by rw [hback];exact hJ3,hnx.trans hk3⟩
    case measure=>simp [intOf]
   ·gi_wp2
    refine bodyPost_ret (Go.results_none rfl _ _ _) rfl ?_
    exact ⟨⟨_,rfl⟩,.inr ⟨_,⟨k+1,by omega,hback.symm⟩,hJx3⟩⟩
  ·obtain rfl:k=len:=by omega
   gi_wp2
   go_end0
   exact ⟨⟨_,rfl⟩,.inl ⟨_,rfl,hJs⟩⟩
set_option maxHeartbeats 1000000 in
theorem back_in (F:Fence) (n:Nat) (h5:F.fn 145) (hro:F.round=none) (a:Option Addr) (len cap:Nat) (w:World) :
  CallsIn F n Tryz.prog 145 #[.slice a len cap] w fun e w'=>e=.returned (.func (.func 160) #[] #[.pointer (some ⟨w.heap.size,0,none⟩)])∧w'=w.alloc (.cells #[.slice a len cap] 25):=by
 refine callsIn_of_wp Tryz.func145 rfl h5 ?_ hro
 simp only [Tryz.ntmps145,List.size_toArray,List.length_cons,List.length_nil,Nat.reduceAdd,Nat.reduceSub,Array.replicate_succ,Array.replicate_zero,List.push_toArray,List.append_toArray,List.nil_append,List.cons_append]
 gi_wp2
 go_ret
 exact ⟨rfl,rfl⟩
set_option maxRecDepth 100000 in
set_option maxHeartbeats 1000000 in
theorem back1_nil_in (F:Fence) (n:Nat) (h7:F.fn 160) (hro:F.round=none) (l Bs cap:Nat) (a:Option Addr) (J:List (Nat×Int×ByteArray)→World→Prop) (W:World) (hBs:W.cell? ⟨Bs,0,none⟩=some (.slice a 0 cap)) (h0:J [] W) :
  CallsIn F n Tryz.prog 160 #[.func (.yield l) #[] #[],.pointer (some ⟨Bs,0,none⟩)] W fun e W'=>(∃ v,e=.returned v)∧J [] W':=by
 refine callsIn_of_wp Tryz.func160 rfl h7 ?_ hro
 simp only [Tryz.ntmps160,List.size_toArray,List.length_cons,List.length_nil,Nat.reduceAdd,Nat.reduceSub,Array.replicate_succ,Array.replicate_zero,List.push_toArray,List.append_toArray,List.nil_append,List.cons_append]
 gi_wp2
 gi_loopw [3] (fun i wr=>i=.int .i64 (-1)∧J [] wr) (fun _ _=>0)
 case atStart=>exact ⟨by simp,h0⟩
 case round =>
  obtain ⟨rfl,hJs⟩:=hrel
  gi_wp2
  go_end0
  exact ⟨⟨_,rfl⟩,hJs⟩
def Pairs (n₀:Nat) (W:World) (sv:Value) (len:Nat) (z:Nat→Nat×Int×ByteArray):Prop :=
 (∃ a cap,sv=.slice a 0 cap∧len=0)∨∃ b off cap,sv=.slice (some ⟨b,off,none⟩) len cap∧len≤cap∧b < n₀∧∀ j,j < len→W.cell? ⟨b,off+j * 2,none⟩=some (.int .i64 (z j).2.1)∧W.cell? ⟨b,off+j * 2+1,none⟩=some (.string (z j).2.2)
theorem Pairs.below {n₀:Nat} {A B:World} (h:Below n₀ A B) {sv:Value} {len:Nat} {z:Nat→Nat×Int×ByteArray}:Pairs n₀ A sv len z→Pairs n₀ B sv len z
 | .inl e=>.inl e
 | .inr ⟨b,off,cap,e,hc,hb,hz⟩=>.inr ⟨b,off,cap,e,hc,hb,fun j hj=>⟨(h.cell (p:=⟨b,off+j * 2,none⟩) hb).trans (hz j hj).1,(h.cell (p:=⟨b,off+j * 2+1,none⟩) hb).trans (hz j hj).2⟩⟩
theorem back_stops (F:Fence) (n:Nat) (h7:F.fn 160) (hro:F.round=none) (hn:1≤n) (Bs:Nat) (sv:Value) (len:Nat) (z:Nat→Nat×Int×ByteArray) (hz:∀ j,(z j).1=j) (hreach:len≤70368744177664) (w:World) (hBs:Bs < w.heap.size)
  (hc:w.cell? ⟨Bs,0,none⟩=some sv) (hI:Pairs w.heap.size w sv len z) :
  SeqStopsK F n Tryz.prog 160 #[.pointer (some ⟨Bs,0,none⟩)] (fun x:Nat×Int×ByteArray=>#[Value.int .i64 (x.1:Int),.agg #[.int .i64 x.2.1,.string x.2.2]]) (Below w.heap.size) (fun ys=>ys=back z len len)
   (fun pre=>∃ k,k≤len∧pre=back z len k) len w:=fun l J Jx W hW _ _ hY h0=>by
 have hc':=(hW.cell (p:=⟨Bs,0,none⟩) hBs).trans hc
 rcases hI.below hW with ⟨a,cap,rfl,rfl⟩ | ⟨b,off,cap,rfl,hcap,hb,hcs⟩
 ·exact (back1_nil_in F n h7 hro l Bs cap a J W hc' h0).mono fun e W' ⟨he,hj⟩=>⟨he,.inl ⟨_,rfl,hj⟩⟩
 ·exact back1_in F n h7 hro hn l Bs w.heap.size b off len cap z hz hreach hcap hb J Jx hY W hc' hBs hcs h0
theorem cells_own {σ:Type} {n₀:Nat} (B:Nat) (o:σ→Obj) (ho:∀ s,(o s).isCells=true):OwnFrom n₀ (fun (s:σ) W=>W.heap[B]?=some (o s)):=by
 intro s X Y row h hg hr
 have hlt:B < X.heap.size:=(Array.getElem?_eq_some_iff.1 h).1
 refine (hg.block B hlt (fun e=>?_)).trans h
 obtain ⟨_,o',h1,h2⟩:=hr B e.symm
 rw [h] at h1;cases h1
 rw [ho s] at h2;cases h2
set_option maxRecDepth 100000 in
set_option maxHeartbeats 4000000 in
theorem read_in (F:Fence) (n:Nat) (h87:F.fn 118) (h128:F.fn 145) (h146:F.fn 160) (hro:F.round=none) (hn:6≤n) (bl sv x2 x3:Value) (key:Int) (len:Nat) (z:Nat→Nat×Int×ByteArray) (hz:∀ j,(z j).1=j) (hreach:len≤70368744177664) (w:World) (s:ByteArray)
  (hI:Pairs w.heap.size w sv len z)
  (hF:(∀ xs,xs=back z len len→(∀ x ∈ xs,x.2.1 ≠ key)→∃ bb bo lb cb i,bl=.slice (some ⟨bb,bo,none⟩) lb cb∧key=((i:Nat):Int)∧i < lb∧lb≤cb∧bb < w.heap.size∧w.cell? ⟨bb,bo+i,none⟩=some (.string s)))
  (hG:∀ k pre x,k≤len→pre++[x]=back z len k→(∀ y ∈ pre,y.2.1 ≠ key)→x.2.1=key→x.2.2=s) :
  CallsIn F n Tryz.prog 118 #[.agg #[bl,sv,x2,x3],.int .i64 key] w fun e W'=>e=.returned (.string s)∧Below w.heap.size w W':=by
 have h1:1≤n:=by omega
 refine callsIn_of_wp_marks Tryz.func118 rfl h87 ?_ hro
 simp only [Tryz.ntmps118,List.size_toArray,List.length_cons,List.length_nil,Nat.reduceAdd,Nat.reduceSub,Array.replicate_succ,Array.replicate_zero,List.push_toArray,List.append_toArray,List.nil_append,List.cons_append]
 obtain ⟨a,l0,cap,rfl⟩:∃ a l0 cap,sv=.slice a l0 cap:=by
  rcases hI with ⟨a,cap,h,_⟩ | ⟨b,off,cap,h,_⟩
  ·exact ⟨_,_,_,h⟩
  ·exact ⟨_,_,_,h⟩
 gi_wp2_with (gi_at_call 145;refine (back_in F (n - 1) h128 hro _ _ _ _).mono ?_;rintro e w' ⟨rfl,rfl⟩)
 have bD:=(Below.heap_alloc _ (.cells #[.slice a l0 cap] 25) w.heap.size (by simp;omega)).trans ((Below.heap_alloc _ (.cells #[.string { data:=#[] }] 9) w.heap.size (by simp;omega)).trans ((Below.heap_alloc _ (.cells #[.int .i64 key] 2) w.heap.size (by simp)).trans (World.alloc_heap_new w (.cells #[bl,.slice a l0 cap,x2,x3] 27))))
 have bK:=((Boxed.new (w.alloc (.cells #[bl,.slice a l0 cap,x2,x3] 27)) 2 (.int .i64 key)).alloc (.cells #[.string { data:=#[] }] 9)).alloc (.cells #[.slice a l0 cap] 25)
 have bR:=(Boxed.new ((w.alloc (.cells #[bl,.slice a l0 cap,x2,x3] 27)).alloc (.cells #[.int .i64 key] 2)) 9 (.string { data:=#[] })).alloc (.cells #[.slice a l0 cap] 25)
 have bS:=Boxed.new (((w.alloc (.cells #[bl,.slice a l0 cap,x2,x3] 27)).alloc (.cells #[.int .i64 key] 2)).alloc (.cells #[.string { data:=#[] }] 9)) 25 (.slice a l0 cap)
 simp only [World.size_alloc] at bK bR bS
 have hB0:Below w.heap.size w ((((w.alloc (.cells #[bl,.slice a l0 cap,x2,x3] 27)).alloc (.cells #[.int .i64 key] 2)).alloc (.cells #[.string { data:=#[] }] 9)).alloc (.cells #[.slice a l0 cap] 25)) :=
  ((((Below.refl _ w).alloc (Nat.le_refl _) _).alloc (by simp) _).alloc (by simp;omega) _).alloc (by simp;omega) _
 have hsz:((((w.alloc (.cells #[bl,.slice a l0 cap,x2,x3] 27)).alloc (.cells #[.int .i64 key] 2)).alloc (.cells #[.string { data:=#[] }] 9)).alloc (.cells #[.slice a l0 cap] 25)).heap.size=w.heap.size+4:=by simp
 obtain ⟨W0,hW0⟩:∃ W0,((((w.alloc (.cells #[bl,.slice a l0 cap,x2,x3] 27)).alloc (.cells #[.int .i64 key] 2)).alloc (.cells #[.string { data:=#[] }] 9)).alloc (.cells #[.slice a l0 cap] 25))=W0:=⟨_,rfl⟩
 rw [hW0] at bD bK bR bS hB0 hsz ⊢
 clear hW0
 have hI0:Pairs W0.heap.size W0 (.slice a l0 cap) len z:=by
  rcases hI.below hB0 with h | ⟨b,off,cap',h1,h2,h3,h4⟩
  ·exact .inl h
  ·exact .inr ⟨b,off,cap',h1,h2,by omega,h4⟩
 refine wpIn_rangeFunc_ownH hro h1 (gf:=160) (lb:=#[.pointer (some ⟨w.heap.size+1+1+1,0,none⟩)]) rfl h146 (enters_of Tryz.func160 (by kernel_rfl) rfl)
  (back_stops F (n - 1) h146 hro (by omega) (w.heap.size+1+1+1) (.slice a l0 cap) len z hz hreach W0 (by omega) bS.cell hI0) belowK_t (belowK_b (Nat.le_refl _)) (Below.refl _ _) (fun _=>rfl)
  (fun pre W=>(((W.heap[w.heap.size]?=some (.cells #[bl,.slice a l0 cap,x2,x3] 27 (0,0))∧Boxed W (w.heap.size+1) 2 (.int .i64 key))∧(Boxed W (w.heap.size+1+1) 9 (.string { data:=#[] })∧Boxed W (w.heap.size+1+1+1) 25 (.slice a l0 cap)))∧Below w.heap.size w W)∧∀ y ∈ pre,y.2.1 ≠ key)
  (fun c pre W=>((Boxed W (w.heap.size+1+1) 9 (.string (pre.getLast?.elim ByteArray.empty (·.2.2)))∧Below w.heap.size w W)∧c=.ret∧∃ p x,pre=p++[x]∧(∀ y ∈ p,y.2.1 ≠ key)∧x.2.1=key))
  ?hI ?hIx ?h0
  (fun x a' W=>∃ Bx,w.heap.size+3 < Bx∧W.heap[Bx]?=some (.cells #[.int .i64 x.2.1,.string x.2.2] 111 (0,0))∧a'={ tmps:=#[.agg #[bl,.slice a l0 cap,x2,x3],.int .i64 key,.pointer (some ⟨w.heap.size,0,none⟩),.pointer (some ⟨w.heap.size+1,0,none⟩),.pointer (some ⟨w.heap.size+1+1,0,none⟩),undef,.pointer (some ⟨Bx,0,none⟩),.pointer (some ⟨w.heap.size,1,none⟩),.slice a l0 cap,.func (.func 160) #[] #[.pointer (some ⟨w.heap.size+1+1+1,0,none⟩)],.int .i64 (x.1:Int),.agg #[.int .i64 x.2.1,.string x.2.2],undef,undef,undef,undef,undef,undef,undef,undef,undef,undef,undef],defers:=[] })
  ?hAx ?assign ?body ?done ?stop
 case hI=>exact OwnFrom.and (OwnFrom.and (OwnFrom.and (OwnFrom.and (cells_own _ (fun _=>_) (fun _=>rfl)) (Own.from (boxed_own _ _ _) _)) (OwnFrom.and (Own.from (boxed_own _ _ _) _) (Own.from (boxed_own _ _ _) _))) (ownFrom_below (Nat.le_refl _) (by omega))) (fun _ _ _ _ hs _ _=>hs)
 case hIx=>exact fun c=>OwnFrom.and (OwnFrom.and (Own.from (boxed_own _ _ _) _) (ownFrom_below (Nat.le_refl _) (by omega))) (fun _ _ _ _ hs _ _=>hs)
 case h0=>exact ⟨⟨⟨⟨bD,bK⟩,bR,bS⟩,hB0⟩,by simp⟩
 case hAx =>
  intro x a' _ X Y row hs hg hr
  obtain ⟨Bx,h1,h2,h3⟩:=hs
  exact ⟨Bx,h1,cells_own (n₀:=W0.heap.size) Bx (fun (_:Unit)=>Obj.cells #[.int .i64 x.2.1,.string x.2.2] 111 (0,0)) (fun _=>rfl) () X Y row h2 hg hr,h3⟩
 case assign =>
  rintro l pre x W K ⟨⟨⟨⟨bD1,bK1⟩,bR1,bS1⟩,hB1⟩,hp⟩ hK
  have hs1:=bS1.lt
  gi_wp2
  exact hK _ _ ((KeepsOthers.alloc _ _).from _) ((Below.refl _ W).alloc (by omega) _) ⟨⟨⟨⟨(Below.heap_alloc W _ _ (by omega)).trans bD1,bK1.alloc _⟩,bR1.alloc _,bS1.alloc _⟩,hB1.alloc hB1.size _⟩,hp⟩ ⟨W.heap.size,by omega,World.alloc_heap_new W _,rfl⟩
 case body =>
  rintro l pre x a' W hl ⟨r,hr⟩ ⟨⟨⟨⟨bD1,bK1⟩,bR1,bS1⟩,hB1⟩,hp⟩ ⟨Bx,hBx,bX,rfl⟩ hlt
  have cK:=bK1.cell
  have cX:W.cell? ⟨Bx,0,none⟩=some (.int .i64 x.2.1):=by simp [World.cell?,bX]
  have cX1:W.cell? ⟨Bx,1,none⟩=some (.string x.2.2):=by simp [World.cell?,bX]
  have fR:=bR1.frozen
  have cR:=bR1.cell
  gi_wp2
  ·rename_i hx
   have hx':x.2.1=key:=by simpa using hx
   exact ⟨(KeepsOthers.setCell _ _ _).from _,⟨by simpa using bR1.set _,hB1.setCell (p:=⟨w.heap.size+1+1,0,none⟩) (by simp;omega) _⟩,rfl,pre,x,rfl,hp,hx'⟩
  ·rename_i hx
   have hx':x.2.1 ≠ key:=by simpa using hx
   exact ⟨KeepsFrom.refl _ _,Below.refl _ _,⟨⟨⟨bD1,bK1⟩,bR1,bS1⟩,hB1⟩,fun y hy=>by
    rcases List.mem_append.1 hy with h | h
    ·exact hp y h
    ·simp at h;subst h;exact hx'⟩
 case done =>
  rintro D xs W hD rfl ⟨⟨⟨⟨bD1,bK1⟩,bR1,bS1⟩,hB1⟩,hp⟩ hK
  obtain ⟨bb,bo,lb,cb,i,rfl,rfl,hi,hcb,hbb,hcell⟩:=hF _ rfl hp
  have cK:=bK1.cell
  have cD:W.cell? ⟨w.heap.size,0,none⟩=some (.slice (some ⟨bb,bo,none⟩) lb cb):=by simp [World.cell?,bD1]
  have cB:W.cell? ⟨bb,bo+i,none⟩=some (.string s):=(hB1.cell (p:=⟨bb,bo+i,none⟩) hbb).trans hcell
  have fR:=bR1.frozen
  have cR:=bR1.cell
  gi_wp2
  have hK2:=(KeepsOthers.setCell W ⟨w.heap.size+1+1,0,none⟩ (.string s)).same D _ hK rfl
  have bR2:=bR1.set (.string s)
  have hDl:w.heap.size+1+1 ≠ D:=by omega
  refine ⟨by simp,.inl ⟨_,_,rfl,run_takeDeferred hK2,?_⟩⟩
  have hc5:((W.setCell ⟨w.heap.size+1+1,0,none⟩ (.string s)).putObj D (.deferred none)).cell? ⟨w.heap.size+1+1,0,none⟩=some (.string s) :=
   (World.cell?_of_block (World.putObj_heap_other (k:=w.heap.size+1+1) (by omega))).trans bR2.cell
  have hB3:Below w.heap.size w (W.setCell ⟨w.heap.size+1+1,0,none⟩ (.string s)):=hB1.setCell (p:=⟨w.heap.size+1+1,0,none⟩) (by simp;omega) _
  refine ⟨.string s,?_,rfl,hB3.trans (belowK_b (w:=w) (Nat.le_refl _) _ D _ _ (by omega) hK2 rfl rfl)⟩
  simp [Go.results,Tryz.f118,go_sem,hc5]
 case stop =>
  rintro D c pre W hD ⟨k,hk,hpre⟩ ⟨⟨bR1,hB1⟩,rfl,p,x,rfl,hp,hx⟩ hK
  have hs:=hG k p x hk hpre hp hx
  simp only [List.getLast?_append,List.getLast?_singleton,Option.some_or,Option.elim_some,hs] at bR1
  have cR:=bR1.cell
  gi_wp2
  refine ⟨by simp,.inl ⟨_,_,rfl,run_takeDeferred hK,?_⟩⟩
  have hc5:(W.putObj D (.deferred none)).cell? ⟨w.heap.size+1+1,0,none⟩=some (.string s) :=
   (World.cell?_of_block (World.putObj_heap_other (k:=w.heap.size+1+1) (by omega))).trans cR
  refine ⟨.string s,?_,rfl,hB1.trans (belowK_b (w:=w) (Nat.le_refl _) W D _ _ (by omega) hK rfl rfl)⟩
  simp [Go.results,Tryz.f118,go_sem,hc5]
end Go.Proofs.TM
