import Derived.Test.YtfbolaoobodmoaaGreatDoorPA
import Derived.Test.YtfbolaoobodmoaaGreatDoorPB
import Derived.Test.YtfbolaoobodmoaaGreatDoorPC
namespace Go.Proofs.TM
open Go Go.Proofs
set_option maxHeartbeats 1000000
def pagesP (p:DPager) (n:Nat):List Str:=(List.range n).map fun (i:Nat)=>comP p (areaK p + i)
theorem happS (l:List Str) (x:Str) (h:l.length ≤ 1000):appL 16 l (lit [x]) = some (l ++ [x]):=by unfold appL lit; rw [if_pos (by simp [maxRow]; omega)]
open Classical in
noncomputable def outCP (p:DPager):List Str × Int:=if PagerV p then (pagesP p (p.1.1.length - (areaK p).toNat),0) else ([],1)
open Classical in
theorem impl_CommittedPages_out (p:DPager) (hin:PagerIn p 1048576):impl_CommittedPages p = some (outCP p):=by
 unfold impl_CommittedPages outCP
 simp only [ValidPager_out p hin,obs,deq]
 by_cases h:PagerV p
 case neg=>rw [if_pos h,if_neg h]
 rw [if_neg (by simpa using h),if_pos h,iArea_out p h,obs]
 have ha:=area_in h
 obtain ⟨a,hae⟩:∃ a:Nat,areaK p = a:=⟨(areaK p).toNat,by omega⟩
 have:impl_CommittedPages_l1 p ([],areaK p) = some (pagesP p (p.1.1.length - (areaK p).toNat)):=by
  unfold impl_CommittedPages_l1
  rw [hae,Int.toNat_natCast]
  refine loop_some (p.1.1.length - a) (fun i s=>s = (pagesP p i,(a:Int) + i)) (fun i s hi hs=>?_) (p.1.1.length - a) 0 _ (by omega) (by simp [pagesP])
  subst hs
  simp only [impl_CommittedPages_l1_b]
  have hl:(pagesP p i).length = i:=by simp [pagesP]
  have hs:pagesP p (i + 1) = pagesP p i ++ [comP p (a + i)]:=by simp [pagesP,List.range_succ,hae]
  by_cases hn:i < p.1.1.length - a
  ·rw [if_pos (by omega),committed_out p _ h hin (by omega) (by omega),obs,happS _ _ (by omega),obs,wrap_in (by omega) (by omega)]
   exact .inr ⟨hn,_,rfl,by rw [hs]; simp only [Prod.mk.injEq,true_and]; omega⟩
  ·have:i = p.1.1.length - a:=by omega
   subst this
   rw [if_neg (by omega)]; exact .inl rfl
 rw [this]; rfl
open Classical in
noncomputable def outCk (p:DPager):DPager × Int:=if PagerV p then (if p.2.1.2.2.2 = 1000000000000 then (noPg,5) else endK p.2 (ckR p.1 p.2)) else (noPg,1)
open Classical in
theorem impl_Ck (p:DPager) (hin:PagerIn p 1048576):impl_Checkpoint p = some (outCk p):=by
 unfold impl_Checkpoint outCk
 simp only [ValidPager_out p hin,obs,deq]
 by_cases hp:PagerV p
 case neg=>rw [if_pos hp,if_neg hp]; rfl
 rw [if_neg (Classical.not_not.2 hp),if_pos hp]
 unfold impl_Pager_onDisk_Pager_checkpoint
 rw [clone_out p hin,obs]
 obtain ⟨d,q⟩:=p
 simp only
 by_cases ht:q.1.2.2.2 = 1000000000000
 ·rw [if_pos ht]
  unfold impl_Pager_checkpoint_o19
  rw [if_pos ht,obs,if_neg (by simp),if_neg (by simp),obs]
  rfl
 rw [if_neg ht,iCheck hp ht,obs]
 obtain ⟨hc,_⟩:=ck_code hp ht
 unfold endK
 by_cases hz:(ckR d q).2 = 0
 ·rw [if_pos hz]
  simp only [if_true,obs]
 ·have h13:(ckR d q).2 = 13:=by omega
  rw [if_neg hz]
  simp only [h13]
  rw [if_neg (by omega)]
  simp only [if_true,obs]
theorem texts_same (l:List Str) (h:l.length ≤ 1000):laws_b10Texts l l = some true:=by
 unfold laws_b10Texts laws_b10Texts_l1
 rw [if_neg (by simp)]
 rw [loop_some (f:=fun s=>laws_b10Texts_l1_b l l s) (r:=.inl ()) l.length (fun i s=>s = (i:Int)) (fun i s hi hs=>by
  subst hs
  simp only [laws_b10Texts_l1_b]
  by_cases hlt:i < l.length
  ·obtain ⟨x,hx⟩:=get_at hlt
   rw [if_pos (by omega),if_pos (by omega),Int.toNat_natCast,hx,obs,if_pos (by omega),obs,if_neg (by simp),w1 (by omega)]
   exact .inr ⟨hlt,_,rfl,by omega⟩
  ·rw [if_neg (by omega)]
   exact .inl rfl) l.length 0 0 (by omega) rfl]
 rfl
def syP (p:DPager):DPager × Int:=if NoPow p.1 then ((offD p.1,p.2),13) else (((barD p.1).1,p.2),0)
theorem sync_out {p:DPager} (hp:PagerV p):impl_Sync p = some (syP p):=by
 unfold impl_Sync syP
 rw [ValidPager_out p hp.in1,obs,if_neg (by simpa using hp)]
 unfold impl_Pager_onDisk_Sync_c1 impl_Sync_c1_o19
 rw [clone_out p hp.in1,obs]
 obtain ⟨d,q⟩:=p
 rw [iBar d q hp.1,obs,obs]
 unfold barD
 by_cases hn:NoPow d
 ·rw [if_pos hn,if_pos hn]
  simp
 ·rw [if_neg hn,if_neg hn]
  simp
theorem pages_eq {p c:DPager} (hb:c.1.1.length = p.1.1.length) (hK:areaK c = areaK p) (h:∀ j,areaK p ≤ j → j < (p.1.1.length:Int) → comP c j = comP p j) (ha:0 ≤ areaK p):pagesP c (c.1.1.length - (areaK c).toNat) = pagesP p (p.1.1.length - (areaK p).toNat):=by
 rw [hb,hK]
 unfold pagesP
 apply List.map_congr_left
 intro i hi
 rw [List.mem_range] at hi
 rw [hK]
 exact h _ (by omega) (by omega)
theorem placed {d:DDisk} {q:PRest} (hp:PagerV (d,q)) (ht:¬ q.1.2.2.2 = 1000000000000) (hz:(ckR d q).2 = 0):PagerV ((ckR d q).1,nxS q,q.2.1,0,[],q.2.2.2.2) ∧ (outCP ((ckR d q).1,nxS q,q.2.1,0,[],q.2.2.2.2)).1 = (outCP (d,q)).1:=by
 obtain ⟨hi,hl,hs,hN,hlt,h16⟩:=pv_inv hp ht
 have ha:=area_in hp
 simp only at ha
 have hK:areaK ((ckR d q).1,nxS q,q.2.1,0,[],q.2.2.2.2) = areaK (d,q):=rfl
 have hA:areaK (d,q) = 2 + q.1.2.1:=rfl
 have hd:=(rdD_ck hp ht hz (2 + q.1.2.1) (by omega) (by omega)).2
 have hv:PagerV ((ckR d q).1,nxS q,q.2.1,0,[],q.2.2.2.2):=by
  obtain ⟨a1,a2,a3,a4,a5,a6,a7,a8,a9,a10,a11⟩:=hp
  refine ⟨hd.1,fun hh=>?_,hs,?_,⟨Int.le_refl _,a5.2⟩,?_,⟨by simp,fun i hi=>by simp at hi⟩,a8,fun x hx=>by simp at hx,a10,a11⟩
  ·have:=hd.2.2; simp only at hh; omega
  ·show q.1.1 = _; rw [hd.2.1]; exact a4
  ·simp only; exact ⟨by omega,by show (0:Int) ≤ q.1.2.1; omega⟩
 refine ⟨hv,?_⟩
 unfold outCP
 rw [if_pos hv,if_pos hp]
 exact pages_eq hd.2.1 hK (fun j h0 h1=>(rdD_ck hp ht hz j (by omega) h1).1) (by omega)
theorem synced {d:DDisk} {q:PRest} (hp:PagerV (d,q)) (hn:¬ NoPow d):PagerV ((barD d).1,q) ∧ (outCP ((barD d).1,q)).1 = (outCP (d,q)).1:=by
 have h600:(d.2.1.length:Int) ≤ 600:=hp.1.2.2.1
 have hd:DInv d.1.length 600 d:=⟨hp.1,rfl,by omega⟩
 have h0:(barD d).2 = 0:=by unfold barD; rw [if_neg hn]
 have ha:=area_in hp
 simp only at ha
 rcases barD_inv hd with ⟨a,b⟩ | ⟨a,b⟩
 case inr=>rw [h0] at a; cases a
 have hv:PagerV ((barD d).1,q):=by
  obtain ⟨a1,a2,a3,a4,a5,a6,a7,a8,a9,a10,a11⟩:=hp
  exact ⟨b.1,fun hh=>by have:=b.2.2; simp only at hh; omega,a3,by show q.1.1 = _; rw [b.2.1]; exact a4,a5,a6,a7,a8,a9,a10,a11⟩
 refine ⟨hv,?_⟩
 unfold outCP
 rw [if_pos hv,if_pos hp]
 refine pages_eq b.2.1 rfl (fun j h0' h1=>?_) (by omega)
 unfold comP
 simp only
 rw [rdD_bar hp.1 h0 j (by omega) h1]
open Classical in
theorem FnPlaced_true (code:List Bt) (h:Gd.ok code):laws_FnPlaced code = some true:=by
 unfold laws_FnPlaced laws_b10Long
 simp only [obs,decide_eq_true_eq]
 by_cases c1:(code.length:Int) > 1048576
 ·rw [if_pos c1]
 rw [if_neg c1]
 obtain ⟨p,hd,hin⟩:=DrawCheckpoint_out code
 rw [hd,obs,impl_CommittedPages_out p hin,obs]
 by_cases hp:PagerV p
 case neg =>
  have:(outCP p).2 = 1:=by unfold outCP; rw [if_neg hp]
  rw [if_pos (by rw [this]; decide)]
 have h0:(outCP p).2 = 0:=by unfold outCP; rw [if_pos hp]
 rw [if_neg (by rw [h0]; simp),impl_Ck p hin,obs,sync_out hp,obs]
 obtain ⟨d,q⟩:=p
 have hck:outCk (d,q) = if q.1.2.2.2 = 1000000000000 then (noPg,5) else endK q (ckR d q):=by unfold outCk; rw [if_pos hp]
 have p1:∀ b:Int,(b = 0 ∨ b = 13) → laws_FnPlaced_p1 5 b = some true:=fun b hb=>by
  unfold laws_FnPlaced_p1
  rcases hb with rfl | rfl <;> simp
 have sy:(syP (d,q)).2 = 0 ∨ (syP (d,q)).2 = 13:=by unfold syP; split <;> simp
 rw [hck]
 by_cases ht:q.1.2.2.2 = 1000000000000
 ·rw [if_pos ht,if_pos (by simp),p1 _ sy]; rfl
 rw [if_neg ht]
 obtain ⟨hc,_⟩:=ck_code hp ht
 unfold endK
 by_cases hz:(ckR d q).2 = 0
 case neg =>
  rw [if_neg hz]
  simp only
  rw [if_pos hz]
  have:(ckR d q).2 = 13:=by omega
  unfold laws_FnPlaced_p1
  rw [if_pos this]; rfl
 rw [if_pos hz]
 simp only
 rw [if_neg (by simp)]
 by_cases hn:NoPow d
 ·have:syP (d,q) = ((offD d,q),13):=by unfold syP; rw [if_pos hn]
  rw [this,if_pos (by simp)]
  unfold laws_FnPlaced_p1
  rw [if_neg (by simp),if_pos rfl]; rfl
 have hsy:syP (d,q) = (((barD d).1,q),0):=by unfold syP; rw [if_neg hn]
 rw [hsy,if_neg (by simp)]
 obtain ⟨v1,e1⟩:=placed hp ht hz
 obtain ⟨v2,e2⟩:=synced hp hn
 have hlen:(outCP (d,q)).1.length ≤ 1000:=by
  have ha:=area_in hp
  simp only at ha
  unfold outCP
  rw [if_pos hp]
  simp [pagesP]
  omega
 have hts:=texts_same _ hlen
 simp only
 rw [impl_CommittedPages_out _ v1.in1,impl_CommittedPages_out _ v2.in1,obs,obs,e1,e2,hts]
 unfold spec_ValidPager
 rw [l12Ok_out _ v1.in1,l12Ok_out _ v2.in1]
 simp [v1,v2]
end Go.Proofs.TM
