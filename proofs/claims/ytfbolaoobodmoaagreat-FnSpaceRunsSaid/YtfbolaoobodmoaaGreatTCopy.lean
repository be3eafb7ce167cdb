import Derived.Test.YtfbolaoobodmoaaGreatTLib
namespace Go.Proofs.TM
open Go Go.Proofs
def copyE (l:List Bt):List TV:=[.ptr 0 0 0]
def copyB (T Te:Nat) (l:List Bt):List Blk:=[.live 2 [[.bself 0 T,owb 1 l.length Te]],ob 1 l]
def copyO (T Te:Nat) (l:List Bt):TV×List Blk:=(.tup [],[.live 2 [[.bself 0 T,owb 1 l.length Te]],ob 1 l])
noncomputable def copy_r (T Te:Nat):MRule:=RmO copyE (copyB T Te) some (copyO T Te)
theorem copy_app (T Te:Nat) (l:List Bt) {n:Nat} (h:n=l.length):copy_r T Te [.ptr 0 0 0] [.live 2 [[.bself 0 T,owb 1 n Te]],ob 1 l]=(some l).map (copyO T Te):=by
 subst h
 refine RmO_app (enc:=copyE) (encB:=copyB T Te) (g:=some) (out:=copyO T Te) (fun a b h h2=>?_) l
 simp only [copyB,List.cons.injEq,and_true] at h2
 exact ob_inj h2.2
theorem setCell_row {w:World} {b:Nat} {c:Array Value} {ty:Nat} {fr:Nat×Nat} (hb:w.heap[b]?=some (.cells c ty fr)) (k:Nat) (v:Value):w.setCell ⟨b,k,none⟩ v=w.setRow b (c.setIfInBounds k v):=by
 have:(w.setCell ⟨b,k,none⟩ v).heap=(w.setRow b (c.setIfInBounds k v)).heap:=by
  apply Array.ext_getElem?
  intro i
  simp only [World.setCell,World.setRow,Array.getElem?_modify]
  split
  ·rename_i hi
   subst hi
   rw [hb]
   simp
  ·rfl
 unfold World.setCell World.setRow at this ⊢
 simp only at this
 rw [this]
def CkFresh (P:Program) (f T:Nat):Prop:=∀ (b:Nat) (w:World),w.cell? ⟨b,0,none⟩=some (.pointer none)→w.shape? b=some (T,2)→w.frozen? ⟨b,0,none⟩=false →
 Calls P f #[.pointer (some ⟨b,0,none⟩)] w fun e w'=>e=.returned (.tuple #[])∧w'=w.setCell ⟨b,0,none⟩ (.pointer (some ⟨b,0,none⟩))
def CkUsed (P:Program) (f:Nat):Prop:=∀ (b:Nat) (w:World),w.cell? ⟨b,0,none⟩=some (.pointer (some ⟨b,0,none⟩))→Calls P f #[.pointer (some ⟨b,0,none⟩)] w fun e w'=>e=.returned (.tuple #[])∧w'=w
theorem copyChk_ok {P:Program} {f T Te:Nat} (hF1:CkFresh P f T) (hF2:CkUsed P f) (he:Enters P f):MRuleOk P f 2 (copy_r T Te):=by
 refine ⟨he,fun ts B r N hF=>?_⟩
 unfold copy_r RmO at hF
 split at hF
 ·rename_i hx
  obtain ⟨e1,e2⟩:=hx.choose_spec
  revert e1 e2 hF
  generalize hx.choose=l
  intro hF e1 e2
  simp only [Option.map_some,Option.some.injEq] at hF
  unfold copyO at hF
  cases hF
  subst e1
  subst e2
  refine ⟨by simp [copyB],by simp,fun w I μ vs hr hdom hvs=>?_⟩
  unfold copyB at hr ⊢
  obtain ⟨v,rfl,hv⟩:∃ v,vs=#[v]∧VR w I μ (.ptr 0 0 0) v:=by
   obtain ⟨v,h1,h2⟩:=hvs.get1
   exact ⟨v,by rw [← Array.toArray_toList (xs:=vs),h1],h2⟩
  cases hv with
  | ptr _ _ _ _ loc hm =>
   have hl0:look [Blk.live 2 [[.bself 0 T,owb 1 l.length Te]],ob 1 l] 0=.live 2 [[.bself 0 T,owb 1 l.length Te]]:=rfl
   obtain ⟨loc',c,ty,fr,k1,k2,k3⟩:=hr.live 0 _ _ hl0
   rw [hm] at k1
   cases k1
   obtain ⟨v0,c0,b0⟩:=k3.cells 0 _ 0 _ rfl rfl
   cases b0 with
   | bself _ _ _ _ loc2 hm2 hT2 h0 hc hv0 =>
    rw [hm] at hm2
    cases hm2
    have hsize:c.size=2:=by rw [← k3.hty.2,hc]
    have hty:ty=T:=by rw [← k3.hty.1,hT2]
    rw [h0] at c0 ⊢
    simp only [Nat.zero_add,Nat.zero_mul,Nat.add_zero] at c0 ⊢
    have hsh:w.shape? loc.blk=some (T,2):=by simp only [World.shape?,k2,hsize,hty]
    have hcell:w.cell? ⟨loc.blk,0,none⟩=some v0:=by rw [cell_of_heap k2];exact c0
    rcases hv0 with rfl | rfl
    ·have hfz:w.frozen? ⟨loc.blk,0,none⟩=false:=by
      have:=k3.frozen 0 (by omega) (by have:=k3.fits;simp at this;omega)
      simp only [World.frozen?,k2]
      exact this
     refine (hF1 loc.blk w hcell hsh hfz).mono ?_
     rintro e w' ⟨rfl,rfl⟩
     rw [setCell_row k2]
     have hw:=write_ok (h':=look [Blk.live 2 [[.bself 0 T,owb 1 l.length Te]],ob 1 l]) (nid:=0) (l':=[[.bself 0 T,owb 1 l.length Te]]) (loc':=loc) (μ':=μ) (c':=c.setIfInBounds 0 (.pointer (some ⟨loc.blk,0,none⟩))) hr hl0 hm k2 (by simp) (fun k hk=>by
      rw [Array.getElem?_setIfInBounds_ne]
      rintro rfl
      exact hk ⟨by omega,by have:=k3.fits;simp at this;omega⟩) (Mu.le_refl _) hl0 hm rfl (Nat.le_refl _) (Nat.le_refl _) (fun id0 h0 sz1 l1 hl1=>⟨h0,hl1,rfl⟩) (fun w' hs=>by
       have k3':=k3.mono (w':=w') (I':=I) (μ':=μ) hs (fun _ _ h=>h) (Mu.le_refl _)
       refine ⟨k3'.hsz,⟨k3'.hty.1,by simpa using k3'.hty.2⟩,by simpa using k3'.size,k3'.fits,k3'.frozen,k3'.each,fun i xs k t hi hk=>?_⟩
       have hi0:i=0:=by
        have:=(List.getElem?_eq_some_iff.1 hi).1
        simp at this;exact this
       subst hi0
       simp only [List.getElem?_cons_zero,Option.some.injEq] at hi
       subst hi
       match k,hk with
       | 0,hk =>
        simp only [List.getElem?_cons_zero,Option.some.injEq] at hk
        subst hk
        exact ⟨_,by rw [h0];simp [hsize],.bself _ _ _ _ loc hm hT2 h0 hc (.inr rfl)⟩
       | 1,hk =>
        obtain ⟨u,g1,g2⟩:=k3'.cells 0 _ 1 t rfl hk
        refine ⟨u,?_,g2⟩
        rw [Array.getElem?_setIfInBounds_ne (by omega)]
        exact g1)
     exact ⟨_,I,μ,rfl,hw.2.m 2,hw.1,hdom,.tup _ _ _ rfl (fun k t v h=>by simp at h)⟩
    ·refine (hF2 loc.blk w hcell).mono ?_
     rintro e w' ⟨rfl,rfl⟩
     exact ⟨_,I,μ,rfl,StpM.refl _ _ _ _ _,hr,hdom,.tup _ _ _ rfl (fun k t v h=>by simp at h)⟩
 ·cases hF
end Go.Proofs.TM
