import Derived.Test.YtlajjnljeebkkaaGreatDoorTOpAll
import Derived.Laws.CopyRow
namespace Go.Proofs.TM
open Go
structure Stp (w:World) (I:Nat→Nat→Prop) (μ:Mu) (h:Hf) (w':World) (I':Nat→Nat→Prop) (μ':Mu) (h':Hf):Prop where
 ws:WStep (Foot μ h) w w'
 up:∀ b k,I b k→I' b k
 new:∀ b k,I' b k→(I b k∨Foot μ h b k)∨w.heap.size≤b
 le:μ.le μ'
 foot:∀ b k,Foot μ' h' b k→Foot μ h b k∨w.heap.size≤b
theorem Stp.refl (w:World) (I:Nat→Nat→Prop) (μ:Mu) (h:Hf):Stp w I μ h w I μ h:=⟨WStep.refl _ _,fun _ _ h=>h,fun _ _ h=>.inl (.inl h),Mu.le_refl _,fun _ _ h=>.inl h⟩
theorem Stp.trans {w w1 w2:World} {I I1 I2:Nat→Nat→Prop} {μ μ1 μ2:Mu} {h h1 h2:Hf} (a:Stp w I μ h w1 I1 μ1 h1) (b:Stp w1 I1 μ1 h1 w2 I2 μ2 h2):Stp w I μ h w2 I2 μ2 h2:=by
 refine ⟨a.ws.trans b.ws (fun _ _ h=>h) (fun x y hf=>a.foot x y hf),fun x y hi=>b.up _ _ (a.up _ _ hi),fun x y hi=>?_,Mu.le_trans a.le b.le,fun x y hf=>?_⟩
 ·rcases b.new x y hi with (h1 | h1) | h1
  ·exact a.new x y h1
  ·rcases a.foot x y h1 with h2 | h2
   ·exact .inl (.inr h2)
   ·exact .inr h2
  ·exact .inr (Nat.le_trans a.ws.size h1)
 ·rcases b.foot x y hf with h1 | h1
  ·exact a.foot x y h1
  ·exact .inr (Nat.le_trans a.ws.size h1)
theorem Stp.same {w w':World} {I I':Nat→Nat→Prop} {μ μ':Mu} {h h':Hf} (s:Stp w I μ h w' I' μ' h') (hr:HR w I μ h):Same I w w':=s.ws.same hr.noI
theorem Stp.env {w w':World} {I I':Nat→Nat→Prop} {μ μ':Mu} {h h':Hf} (s:Stp w I μ h w' I' μ' h') (hr:HR w I μ h) {e:Env} {tmps:Array Value} (he:ER w I μ e tmps):ER w' I' μ' e tmps:=he.mono (s.same hr) s.up s.le
theorem Stp.vr {w w':World} {I I':Nat→Nat→Prop} {μ μ':Mu} {h h':Hf} (s:Stp w I μ h w' I' μ' h') (hr:HR w I μ h) {t:TV} {v:Value} (hv:VR w I μ t v):VR w' I' μ' t v:=hv.mono (s.same hr) s.up _ s.le
theorem write_ok {w:World} {I:Nat→Nat→Prop} {μ μ':Mu} {h h':Hf} (hr:HR w I μ h) {id nid sz:Nat} {l l':List (List TV)} {loc loc':Loc} {c c':Array Value} {ty:Nat} {fr:Nat×Nat} (hl:h id=.live sz l) (hm:μ id=some loc)
  (hb:w.heap[loc.blk]?=some (.cells c ty fr)) (hsz:c'.size=c.size) (hother:∀ k,¬ (loc.off≤k∧k < loc.top)→c'[k]?=c[k]?) (hle:μ.le μ') (hn:h' nid=.live sz l') (hmn:μ' nid=some loc') (hblk:loc'.blk=loc.blk)
  (hlo:loc.off≤loc'.off) (hhi:loc'.top≤loc.top) (hold:∀ id0,id0 ≠ nid→∀ sz1 l1,h' id0=.live sz1 l1→id0 ≠ id∧h id0=.live sz1 l1∧μ' id0=μ id0)
  (hok:∀ w',Same I w w'→BlkOk w' I μ' sz l' loc' c' ty fr) :
  HR (w.setRow loc.blk c') I μ' h'∧Stp w I μ h (w.setRow loc.blk c') I μ' h':=by
 have hfoot0:∀ k,loc.off≤k→k < loc.top→Foot μ h loc.blk k:=fun k h1 h2=>⟨id,sz,l,loc,hl,hm,rfl,h1,h2⟩
 have hset:(w.setRow loc.blk c').heap[loc.blk]?=some (.cells c' ty fr):=setRow_heap w loc.blk c c' ty fr hb
 have hws:WStep (Foot μ h) w (w.setRow loc.blk c'):=by
  refine ⟨rfl,rfl,rfl,by simp,fun b hb' hn=>?_,fun b c0 ty0 fr0 hb0=>?_⟩
  ·by_cases hbl:b=loc.blk
   ·subst hbl
    by_cases hne:loc.off < loc.top
    ·exact absurd (hfoot0 loc.off (Nat.le_refl _) hne) (hn _)
    ·have:c'=c:=by
      apply Array.ext_getElem?
      intro k
      exact hother k (by omega)
     rw [hset,hb,this]
   ·exact setRow_other w loc.blk b c' hbl
  ·by_cases hbl:b=loc.blk
   ·subst hbl
    rw [hb] at hb0
    cases hb0
    exact ⟨c',_,hset,hsz,fun k hk=>hother k (fun hh=>hk (hfoot0 k hh.1 hh.2)),.inl rfl⟩
   ·exact ⟨c0,_,by rw [setRow_other w loc.blk b c' hbl];exact hb0,rfl,fun _ _=>rfl,.inl rfl⟩
 have hsame:Same I w (w.setRow loc.blk c'):=hws.same hr.noI
 have hfoot:∀ b k,Foot μ' h' b k→Foot μ h b k:=fun b k ⟨id0,sz1,l1,loc1,f1,f2,f3,f4,f5⟩=>by
  by_cases h0:id0=nid
  ·subst h0
   rw [hmn] at f2
   cases f2
   rw [← f3,hblk]
   exact hfoot0 k (by omega) (by omega)
  ·obtain ⟨g1,g2,g3⟩:=hold id0 h0 sz1 l1 f1
   exact ⟨id0,sz1,l1,loc1,g2,by rw [← g3];exact f2,f3,f4,f5⟩
 refine ⟨⟨fun id0 sz1 l1 hl1=>?_,fun id1 id2 sz1 l1 sz2 l2 loc1 loc2 h1 h2 hne m1 m2 hbl k q1 q2 q3 q4=>?_,fun b k hf hi=>hr.noI b k (hfoot b k hf) hi,hr.lt.step hws hr.noI (fun _ _ h=>h) fun b k hi=>by simpa using hr.lt b k hi⟩,hws,fun _ _ h=>h,fun _ _ h=>.inl (.inl h),hle,fun b k hf=>.inl (hfoot b k hf)⟩
 ·by_cases h0:id0=nid
  ·subst h0
   rw [hn] at hl1
   cases hl1
   exact ⟨loc',c',ty,fr,hmn,by rw [hblk];exact hset,hok _ hsame⟩
  ·obtain ⟨g1,g2,g3⟩:=hold id0 h0 sz1 l1 hl1
   obtain ⟨loc1,c1,ty1,fr1,a1,a2,a3⟩:=hr.live id0 sz1 l1 g2
   have a3':=a3.mono (w':=w.setRow loc.blk c') (I':=I) (μ':=μ') hsame (fun _ _ h=>h) hle
   by_cases hbl:loc1.blk=loc.blk
   ·rw [hbl,hb] at a2
    cases a2
    refine ⟨loc1,c',ty,fr,by rw [g3];exact a1,by rw [hbl];exact hset,a3'.hsz,⟨a3'.hty.1,by rw [hsz];exact a3'.hty.2⟩,by rw [hsz];exact a3'.size,a3'.fits,a3'.frozen,a3'.each,fun i xs k t hi hk=>?_⟩
    obtain ⟨v,b1,b2⟩:=a3'.cells i xs k t hi hk
    refine ⟨v,?_,b2⟩
    rw [hother]
    ·exact b1
    ·rintro ⟨r1,r2⟩
     have hil:i < l1.length:=(List.getElem?_eq_some_iff.1 hi).1
     have hkl:k < sz1:=by rw [← a3'.each xs (List.mem_of_getElem? hi)];exact (List.getElem?_eq_some_iff.1 hk).1
     have hf:=a3'.fits
     have hx:=idx_lt hil hkl
     exact hr.disj id0 id sz1 l1 sz l loc1 loc g2 hl g1 a1 hm hbl (loc1.off+i * sz1+k) (by omega) (by omega) r1 r2
   ·exact ⟨loc1,c1,ty1,fr1,by rw [g3];exact a1,by rw [setRow_other w loc.blk loc1.blk c' hbl];exact a2,a3'⟩
 ·by_cases e1:id1=nid
  ·subst e1
   have e2:id2 ≠ id1:=fun h=>hne h.symm
   obtain ⟨g1,g2,g3⟩:=hold id2 e2 sz2 l2 h2
   rw [hmn] at m1
   cases m1
   rw [g3] at m2
   exact hr.disj id id2 sz l sz2 l2 loc loc2 hl g2 (Ne.symm g1) hm m2 (by rw [← hblk];exact hbl) k (by omega) (by omega) q3 q4
  ·obtain ⟨g1,g2,g3⟩:=hold id1 e1 sz1 l1 h1
   rw [g3] at m1
   by_cases e2:id2=nid
   ·subst e2
    rw [hmn] at m2
    cases m2
    exact hr.disj id1 id sz1 l1 sz l loc1 loc g2 hl g1 m1 hm (by rw [← hblk];exact hbl) k q1 q2 (by omega) (by omega)
   ·obtain ⟨k1,k2,k3⟩:=hold id2 e2 sz2 l2 h2
    rw [k3] at m2
    exact hr.disj id1 id2 sz1 l1 sz2 l2 loc1 loc2 g2 k2 hne m1 m2 hbl k q1 q2 q3 q4
section
variable {P:Program}
theorem run_storeCells (g o:Nat) (t:TypeId) (fr:Nat×Nat):∀ (vs:List Value) (i:Nat) (cur:Array Value) (w:World),w.heap[g]?=some (.cells cur t fr)→o+i+vs.length≤cur.size→(∀ k,o+i≤k→k < o+i+vs.length→frz fr k=false) →
  (∀ v ∈ vs,v.oneCell'=true)→(storeCells ⟨g,o,none⟩ vs i).run P w=.ok () (w.setRow g (cur.toList.take (o+i)++vs++cur.toList.drop (o+i+vs.length)).toArray)
 | [],i,cur,w,hg,_,_,_=>by
  simp only [storeCells,List.append_nil,List.length_nil,Nat.add_zero,List.take_append_drop,Array.toArray_toList]
  rw [setRow_self w g cur t fr hg]
  rfl
 | v::rest,i,cur,w,hg,hl,hfr,h1=>by
  have hi:o+i < cur.size:=by simp at hl;omega
  have hadd:(⟨g,o,none⟩:Addr).add i=⟨g,o+i,none⟩:=by unfold Addr.add;split <;> simp_all
  have hcell:w.cell? ⟨g,o+i,none⟩=some cur[o+i]:=by simp [World.cell?,hg,hi]
  have hfro:w.frozen? ⟨g,o+i,none⟩=false:=by
   have:=hfr (o+i) (Nat.le_refl _) (by simp)
   unfold frz at this
   simp only [World.frozen?,hg]
   exact this
  have hst:(store ((⟨g,o,none⟩:Addr).add i) v).run P w=.ok () (w.setRow g (cur.setIfInBounds (o+i) v)):=by
   rw [hadd,run_store P w _ v _ (h1 v (by simp)),hcell]
   simp [hfro,setCell_eq_setRow w g (o+i) cur t fr v hg]
  have ih:=run_storeCells g o t fr rest (i+1) (cur.setIfInBounds (o+i) v) (w.setRow g (cur.setIfInBounds (o+i) v)) (setRow_heap w g cur _ t _ hg) (by simp at hl ⊢;omega) (fun k hk1 hk2=>hfr k (by omega) (by simp;omega)) (fun x hx=>h1 x (by simp [hx]))
  simp only [storeCells,Sem.run_bind,hst,Result.andThen_ok,ih,setRow_setRow]
  congr 3
  have e:=list_seg_step cur.toList (o+i) v rest (by simp at hl ⊢;omega)
  simpa [Array.toList_setIfInBounds,Nat.add_assoc] using e
theorem seg_get (c:Array Value) (p:Nat) (vs:List Value) (hfit:p+vs.length≤c.size):(c.toList.take p++vs++c.toList.drop (p+vs.length)).toArray.size=c.size ∧
  ∀ k,(c.toList.take p++vs++c.toList.drop (p+vs.length)).toArray[k]?=if p≤k∧k < p+vs.length then vs[k - p]? else c[k]?:=by
 refine ⟨by simp;omega,fun k=>?_⟩
 have hl:(c.toList.take p).length=p:=by simp;omega
 simp only [List.getElem?_toArray]
 by_cases h1:k < p
 ·rw [if_neg (by omega),List.append_assoc,List.getElem?_append_left (by omega),List.getElem?_take,if_pos h1];simp
 ·by_cases h2:k < p+vs.length
  ·rw [if_pos ⟨by omega,h2⟩,List.append_assoc,List.getElem?_append_right (by omega),hl,List.getElem?_append_left (by omega)]
  ·rw [if_neg (by omega),List.append_assoc,List.getElem?_append_right (by omega),hl,List.getElem?_append_right (by omega),List.getElem?_drop,show p+vs.length+(k - p - vs.length)=k by omega];simp
theorem plain_one {w:World} {I:Nat→Nat→Prop} {μ:Mu} {t:TV} {v:Value} (hp:plain t=true) (h:VR w I μ t v):v.oneCell'=true:=by
 cases h <;> first | rfl | (simp [plain] at hp;done) | (rename_i hv;rcases hv with rfl | rfl <;> rfl)
end
end Go.Proofs.TM
