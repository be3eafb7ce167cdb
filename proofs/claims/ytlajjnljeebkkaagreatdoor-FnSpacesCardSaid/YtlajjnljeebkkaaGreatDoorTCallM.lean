import Derived.Test.YtlajjnljeebkkaaGreatDoorTMut
namespace Go.Proofs.TM
open Go
theorem posOf_some:∀ {l:List Nat} {x k:Nat},posOf l x=some k→l[k]?=some x
 | [],x,k,h=>by cases h
 | y::l,x,k,h=>by
  simp only [posOf] at h
  split at h
  ·rename_i hx;cases h;subst hx;rfl
  ·simp only [Option.map_eq_some_iff] at h
   obtain ⟨j,hj,rfl⟩:=h
   simpa using posOf_some hj
theorem posOf_none:∀ {l:List Nat} {x:Nat},posOf l x=none→x ∉ l
 | [],x,h=>by simp
 | y::l,x,h=>by
  simp only [posOf] at h
  split at h
  ·cases h
  ·rename_i hx
   simp only [Option.map_eq_none_iff] at h
   have:=posOf_none h
   simp only [List.mem_cons,not_or]
   exact ⟨fun hh=>hx hh.symm,this⟩
theorem noDup_get:∀ {l:List Nat},noDup l=true→∀ {i j x:Nat},l[i]?=some x→l[j]?=some x→i=j
 | [],_,i,j,x,h1,_=>by simp at h1
 | y::l,h,i,j,x,h1,h2=>by
  simp only [noDup,Bool.and_eq_true,Bool.not_eq_true',List.contains_eq_mem,decide_eq_false_iff_not] at h
  obtain ⟨ha,hb⟩:=h
  cases i with
  | zero =>
   cases j with
   | zero=>rfl
   | succ j =>
    simp only [List.getElem?_cons_zero,Option.some.injEq,List.getElem?_cons_succ] at h1 h2
    subst h1
    exact absurd (List.mem_of_getElem? h2) ha
  | succ i =>
   cases j with
   | zero =>
    simp only [List.getElem?_cons_zero,Option.some.injEq,List.getElem?_cons_succ] at h1 h2
    subst h2
    exact absurd (List.mem_of_getElem? h1) ha
   | succ j =>
    simp only [List.getElem?_cons_succ] at h1 h2
    rw [noDup_get hb h1 h2]
theorem noDup_take:∀ {l:List Nat},noDup l=true→∀ p,noDup (l.take p)=true
 | [],_,p=>by simp [noDup]
 | y::l,h,0=>by simp [noDup]
 | y::l,h,p+1=>by
  simp only [noDup,Bool.and_eq_true,Bool.not_eq_true',List.contains_eq_mem,decide_eq_false_iff_not] at h
  simp only [List.take_succ_cons,noDup,Bool.and_eq_true,Bool.not_eq_true',List.contains_eq_mem,decide_eq_false_iff_not]
  exact ⟨fun hh=>h.1 (List.mem_of_mem_take hh),noDup_take h.2 p⟩
theorem posOf_get:∀ {l:List Nat},noDup l=true→∀ {k x:Nat},l[k]?=some x→posOf l x=some k:=fun {l} h {k x} hk=>by
 cases hp:posOf l x with
 | none=>exact absurd (List.mem_of_getElem? hk) (posOf_none hp)
 | some j=>rw [noDup_get h (posOf_some hp) hk]
def muK (μ:Mu) (ids:List Nat):Mu:=fun k=>(ids[k]?).bind μ
theorem muK_get {μ:Mu} {ids:List Nat} {k id:Nat} (h:ids[k]?=some id):muK μ ids k=μ id:=by unfold muK;rw [h];rfl
theorem renB_live {ρ:Nat→Option Nat} {b:Blk} {sz:Nat} {l:List (List TV)} (h:renB ρ b=.live sz l):∃ l0,b=.live sz l0∧l=l0.map fun xs=>xs.map (ren ρ 1):=by
 cases b with
 | dead=>cases h
 | live sz' l'=>simp only [renB,Blk.live.injEq] at h;exact ⟨l',by rw [h.1],h.2.symm⟩
theorem coB_live {c:Nat} {b:Blk} {sz:Nat} {l:List (List TV)} (h:coB c b=.live sz l):∃ l0,b=.live sz l0∧(l=l0∨(l=l0.map fun xs=>xs.map coC)∨l=l0.map fun xs=>xs.map treC):=by
 unfold coB at h
 split at h
 ·split at h
  ·cases h
  ·exact ⟨_,h,.inl rfl⟩
 ·simp only [Blk.live.injEq] at h
  obtain ⟨rfl,rfl⟩:=h
  exact ⟨_,rfl,.inr (.inl rfl)⟩
 ·simp only [Blk.live.injEq] at h
  obtain ⟨rfl,rfl⟩:=h
  exact ⟨_,rfl,.inr (.inr rfl)⟩
 ·cases h
 ·exact ⟨_,h,.inl rfl⟩
section
variable {w:World} {I:Nat→Nat→Prop} {μ:Mu} {H:Heap}
theorem BlkOk.ren {w:World} {I:Nat→Nat→Prop} {μ μ':Mu} {ρ:Nat→Option Nat} (hs:∀ id id' loc,μ id=some loc→ρ id=some id'→μ' id'=some loc) {sz:Nat} {l:List (List TV)} {loc:Loc} {c:Array Value} {ty:Nat} {fr:Nat×Nat} (h:BlkOk w I μ sz l loc c ty fr) :
  BlkOk w I μ' sz (l.map fun xs=>xs.map (TM.ren ρ 1)) loc c ty fr:=by
 refine ⟨h.hsz,h.hty,h.size,by simpa using h.fits,h.frozen,fun xs hx=>?_,fun i xs k t hi hk=>?_⟩
 ·simp only [List.mem_map] at hx
  obtain ⟨ys,hy,rfl⟩:=hx
  simpa using h.each ys hy
 ·obtain ⟨ys,hy,rfl⟩:=map_get hi
  obtain ⟨u,hu,rfl⟩:=map_get hk
  obtain ⟨vv,b1,b2⟩:=h.cells i ys k u hy hu
  exact ⟨vv,b1,ren_ok hs 1 b2⟩
theorem BlkOk.co {w:World} {I:Nat→Nat→Prop} {μ:Mu} {sz:Nat} {l:List (List TV)} {loc:Loc} {c:Array Value} {ty:Nat} {fr:Nat×Nat} (h:BlkOk w I μ sz l loc c ty fr) :
  BlkOk w I μ sz (l.map fun xs=>xs.map coC) loc c ty fr:=by
 refine ⟨h.hsz,h.hty,h.size,by simpa using h.fits,h.frozen,fun xs hx=>?_,fun i xs k t hi hk=>?_⟩
 ·simp only [List.mem_map] at hx
  obtain ⟨ys,hy,rfl⟩:=hx
  simpa using h.each ys hy
 ·obtain ⟨ys,hy,rfl⟩:=map_get hi
  obtain ⟨u,hu,rfl⟩:=map_get hk
  obtain ⟨vv,b1,b2⟩:=h.cells i ys k u hy hu
  exact ⟨vv,b1,coC_ok b2⟩
theorem BlkOk.tre {w:World} {I:Nat→Nat→Prop} {μ:Mu} {sz:Nat} {l:List (List TV)} {loc:Loc} {c:Array Value} {ty:Nat} {fr:Nat×Nat} (h:BlkOk w I μ sz l loc c ty fr) :
  BlkOk w I μ sz (l.map fun xs=>xs.map treC) loc c ty fr:=by
 refine ⟨h.hsz,h.hty,h.size,by simpa using h.fits,h.frozen,fun xs hx=>?_,fun i xs k t hi hk=>?_⟩
 ·simp only [List.mem_map] at hx
  obtain ⟨ys,hy,rfl⟩:=hx
  simpa using h.each ys hy
 ·obtain ⟨ys,hy,rfl⟩:=map_get hi
  obtain ⟨u,hu,rfl⟩:=map_get hk
  obtain ⟨vv,b1,b2⟩:=h.cells i ys k u hy hu
  exact ⟨vv,b1,treC_ok b2⟩
theorem posOf_mu {ids:List Nat} (id id':Nat) (loc:Loc) (h1:μ id=some loc) (h2:posOf ids id=some id'):muK μ ids id'=some loc:=by
 rw [muK_get (posOf_some h2)];exact h1
theorem HR.pickK (hr:HR w I μ (look H)) {ids:List Nat} (hd:noDup ids=true) {B:Heap} (hB:∀ k sz l,look B k=.live sz l→∃ id l0,ids[k]?=some id∧look H id=.live sz l0∧(l=(l0.map fun xs=>xs.map (ren (posOf ids) 1))∨(l=(l0.map fun xs=>xs.map (ren (posOf ids) 1)).map fun xs=>xs.map coC)∨l=(l0.map fun xs=>xs.map (ren (posOf ids) 1)).map fun xs=>xs.map treC)) :
  HR w I (muK μ ids) (look B)∧∀ b k,Foot (muK μ ids) (look B) b k→∃ (id j sz:Nat) (l:List (List TV)) (loc:Loc),ids[j]?=some id∧look H id=.live sz l∧μ id=some loc∧loc.blk=b∧loc.off≤k∧k < loc.top:=by
 have hf:∀ b k,Foot (muK μ ids) (look B) b k→∃ (id j sz:Nat) (l:List (List TV)) (loc:Loc),ids[j]?=some id∧look H id=.live sz l∧μ id=some loc∧loc.blk=b∧loc.off≤k∧k < loc.top:=fun b k ⟨j,sz,l,loc,f1,f2,f3,f4,f5⟩=>by
  obtain ⟨id,l0,g1,g2,g3⟩:=hB j sz l f1
  rw [muK_get g1] at f2
  exact ⟨id,j,sz,l0,loc,g1,g2,f2,f3,f4,f5⟩
 refine ⟨⟨fun k sz l hl=>?_,fun k k' sz l sz' l' loc loc' h1 h2 hne m1 m2 hblk q q1 q2 q3 q4=>?_,fun b k hfoot hi=>?_,hr.lt⟩,hf⟩
 ·obtain ⟨id,l0,g1,g2,g3⟩:=hB k sz l hl
  obtain ⟨loc,c,ty,fr,a1,a2,a3⟩:=hr.live id sz l0 g2
  refine ⟨loc,c,ty,fr,by rw [muK_get g1];exact a1,a2,?_⟩
  rcases g3 with rfl | rfl | rfl
  ·exact a3.ren posOf_mu
  ·exact (a3.ren posOf_mu).co
  ·exact (a3.ren posOf_mu).tre
 ·obtain ⟨id,l0,g1,g2,_⟩:=hB k sz l h1
  obtain ⟨id',l0',g1',g2',_⟩:=hB k' sz' l' h2
  rw [muK_get g1] at m1
  rw [muK_get g1'] at m2
  have hne':id ≠ id':=fun h=>hne (noDup_get hd g1 (by rw [h];exact g1'))
  exact hr.disj id id' sz l0 sz' l0' loc loc' g2 g2' hne' m1 m2 hblk q q1 q2 q3 q4
 ·obtain ⟨id,j,sz,l,loc,_,g2,g3,g4,g5,g6⟩:=hf b k hfoot
  exact hr.noI b k ⟨id,sz,l,loc,g2,g3,g4,g5,g6⟩ hi
theorem look_map {f:Nat→Blk} {ids:List Nat} {k sz:Nat} {l:List (List TV)} (h:look (ids.map f) k=.live sz l):∃ id,ids[k]?=some id∧f id=.live sz l:=by
 unfold look at h
 rw [List.getD_eq_getElem?_getD,List.getElem?_map] at h
 cases hk:ids[k]? with
 | none=>rw [hk] at h;cases h
 | some id=>rw [hk] at h;exact ⟨id,rfl,h⟩
theorem keepH_look {ids:List Nat} {k sz:Nat} {l:List (List TV)} (h:look (keepH H ids) k=.live sz l):∃ id l0,ids[k]?=some id∧look H id=.live sz l0∧l=l0.map fun xs=>xs.map (ren (posOf ids) 1):=by
 obtain ⟨id,h1,h2⟩:=look_map h
 obtain ⟨l0,h3,h4⟩:=renB_live h2
 exact ⟨id,l0,h1,h3,h4⟩
theorem keepS1_ok {k:KS} {e e':Env} {H':Heap} {tmps:Array Value} (hr:HR w I μ (look H)) (he:ER w I μ e tmps) (h:keepS1 k e H=some (e',H')) :
  ∃ μ',HR w I μ' (look H')∧ER w I μ' e' tmps∧(∀ id,H'.length≤id→μ' id=none)∧(∀ id,id < k.pin→μ' id=μ id)∧∀ b q,Foot μ' (look H') b q→Foot μ (look H) b q:=by
 unfold keepS1 at h
 split at h
 ·rename_i hc
  obtain ⟨hd,hp⟩:=hc
  simp only [Option.some.injEq,Prod.mk.injEq] at h
  obtain ⟨rfl,rfl⟩:=h
  have hB:∀ q sz l,look (k.blocks.map fun p=>coB p.2 (renB (posOf (k.blocks.map (·.1))) (H.getD p.1 .dead))) q=.live sz l→∃ id l0,(k.blocks.map (·.1))[q]?=some id∧look H id=.live sz l0∧(l=(l0.map fun xs=>xs.map (ren (posOf (k.blocks.map (·.1))) 1))∨(l=(l0.map fun xs=>xs.map (ren (posOf (k.blocks.map (·.1))) 1)).map fun xs=>xs.map coC)∨l=(l0.map fun xs=>xs.map (ren (posOf (k.blocks.map (·.1))) 1)).map fun xs=>xs.map treC):=fun q sz l hl=>by
   unfold look at hl
   rw [List.getD_eq_getElem?_getD,List.getElem?_map] at hl
   cases hk:k.blocks[q]? with
   | none=>rw [hk] at hl;cases hl
   | some p =>
    rw [hk] at hl
    obtain ⟨l1,h1,h2⟩:=coB_live hl
    obtain ⟨l0,h3,rfl⟩:=renB_live h1
    exact ⟨p.1,l0,by rw [List.getElem?_map,hk];rfl,h3,h2⟩
  obtain ⟨g1,g2⟩:=hr.pickK hd hB
  refine ⟨muK μ (k.blocks.map (·.1)),g1,fun t=>?_,fun id hid=>?_,fun id hid=>?_,fun b q hf=>?_⟩
  ·have:get (k.slots.map fun p=>(p.1,coV p.2 (ren (posOf (k.blocks.map (·.1))) 4 (get e p.1)))) t=.undef∨∃ c,get (k.slots.map fun p=>(p.1,coV p.2 (ren (posOf (k.blocks.map (·.1))) 4 (get e p.1)))) t=coV c (ren (posOf (k.blocks.map (·.1))) 4 (get e t)):=by
    induction k.slots with
    | nil=>exact .inl rfl
    | cons p ps ih =>
     simp only [List.map_cons,get]
     by_cases ht:t=p.1
     ·subst ht;right;exact ⟨p.2,by rw [if_pos rfl]⟩
     ·rw [if_neg ht];exact ih
   rcases this with h1 | ⟨c,h1⟩
   ·rw [h1];exact .undef _ _
   ·rw [h1];exact coV_ok (ren_ok posOf_mu 4 (he t))
  ·simp only [List.length_map] at hid
   unfold muK
   rw [List.getElem?_eq_none (by simpa using hid)];rfl
  ·have:(k.blocks.map (·.1))[id]?=some id:=by
    have h1:((k.blocks.map (·.1)).take k.pin)[id]?=some id:=by rw [hp];simp [hid]
    rw [List.getElem?_take,if_pos hid] at h1
    exact h1
   rw [muK_get this]
  ·obtain ⟨id,j,sz,l,loc,_,f2,f3,f4,f5,f6⟩:=g2 b q hf
   exact ⟨id,sz,l,loc,f2,f3,f4,f5,f6⟩
 ·cases h
theorem keepS_ok {e e':Env} {H':Heap} {tmps:Array Value} (hr:HR w I μ (look H)) (he:ER w I μ e tmps):∀ {k:KT},keepS k e H=some (e',H') →
  ∃ μ',HR w I μ' (look H')∧ER w I μ' e' tmps∧(∀ id,H'.length≤id→μ' id=none)∧(∀ id,id < k.pin→μ' id=μ id)∧∀ b q,Foot μ' (look H') b q→Foot μ (look H) b q
 | .o x,h=>keepS1_ok hr he h
 | .s t x y,h=>by
  simp only [keepS] at h
  split at h
  ·obtain ⟨m,h1,h2,h3,h4,h5⟩:=keepS_ok hr he (k:=x) h
   exact ⟨m,h1,h2,h3,fun id hid=>h4 id (by simp only [KT.pin] at hid;omega),h5⟩
  ·obtain ⟨m,h1,h2,h3,h4,h5⟩:=keepS_ok hr he (k:=y) h
   exact ⟨m,h1,h2,h3,fun id hid=>h4 id (by simp only [KT.pin] at hid;omega),h5⟩
  ·cases h
structure StpM (m:Nat) (w:World) (I:Nat→Nat→Prop) (μ:Mu) (h:Hf) (w':World) (I':Nat→Nat→Prop) (μ':Mu) (h':Hf):Prop where
 ws:WStep (Foot μ h) w w'
 up:∀ b k,I b k→I' b k
 new:∀ b k,I' b k→(I b k∨Foot μ h b k)∨w.heap.size≤b
 le:∀ id loc,id < m→μ id=some loc→μ' id=some loc
 foot:∀ b k,Foot μ' h' b k→Foot μ h b k∨w.heap.size≤b
theorem Stp.m {w w':World} {I I':Nat→Nat→Prop} {μ μ':Mu} {h h':Hf} (s:Stp w I μ h w' I' μ' h') (m:Nat):StpM m w I μ h w' I' μ' h':=⟨s.ws,s.up,s.new,fun id loc _ hl=>s.le id loc hl,s.foot⟩
theorem StpM.refl (m:Nat) (w:World) (I:Nat→Nat→Prop) (μ:Mu) (h:Hf):StpM m w I μ h w I μ h:=(Stp.refl w I μ h).m m
theorem StpM.trans {m:Nat} {w w1 w2:World} {I I1 I2:Nat→Nat→Prop} {μ μ1 μ2:Mu} {h h1 h2:Hf} (a:StpM m w I μ h w1 I1 μ1 h1) (b:StpM m w1 I1 μ1 h1 w2 I2 μ2 h2):StpM m w I μ h w2 I2 μ2 h2:=by
 refine ⟨a.ws.trans b.ws (fun _ _ h=>h) (fun x y hf=>a.foot x y hf),fun x y hi=>b.up _ _ (a.up _ _ hi),fun x y hi=>?_,fun id loc hid hl=>b.le id loc hid (a.le id loc hid hl),fun x y hf=>?_⟩
 ·rcases b.new x y hi with (h1 | h1) | h1
  ·exact a.new x y h1
  ·rcases a.foot x y h1 with h2 | h2
   ·exact .inl (.inr h2)
   ·exact .inr h2
  ·exact .inr (Nat.le_trans a.ws.size h1)
 ·rcases b.foot x y hf with h1 | h1
  ·exact a.foot x y h1
  ·exact .inr (Nat.le_trans a.ws.size h1)
theorem StpM.full {m:Nat} {w w':World} {I I':Nat→Nat→Prop} {μ μ':Mu} {h h':Hf} (s:StpM m w I μ h w' I' μ' h') (hd:∀ id,m≤id→μ id=none):Stp w I μ h w' I' μ' h' :=
 ⟨s.ws,s.up,s.new,fun id loc hl=>(Nat.lt_or_ge id m).elim (fun h1=>s.le id loc h1 hl) (fun h1=>absurd hl (by rw [hd id h1];exact fun hh=>by cases hh)),s.foot⟩
theorem look_onlyB {ids:List Nat}:∀ (H:Heap) (k id:Nat),look (onlyB ids k H) id=if ids.contains (id+k) then look H id else .dead
 | [],k,id=>by simp [onlyB,look]
 | b::H,k,0=>by simp [onlyB,look]
 | b::H,k,id+1=>by
  have:=look_onlyB (ids:=ids) H (k+1) id
  rw [show id+(k+1)=id+1+k by omega] at this
  rw [show look (onlyB ids k (b::H)) (id+1)=look (onlyB ids (k+1) H) id by simp [look,onlyB],this]
  simp [look]
theorem look_killB {ids:List Nat}:∀ (H:Heap) (k id:Nat),look (killB ids k H) id=if ids.contains (id+k) then .dead else look H id
 | [],k,id=>by simp [killB,look]
 | b::H,k,0=>by simp [killB,look]
 | b::H,k,id+1=>by
  have:=look_killB (ids:=ids) H (k+1) id
  rw [show id+(k+1)=id+1+k by omega] at this
  rw [show look (killB ids k (b::H)) (id+1)=look (killB ids (k+1) H) id by simp [look,killB],this]
  simp [look]
theorem killB_length {ids:List Nat}:∀ (H:Heap) (k:Nat),(killB ids k H).length=H.length
 | [],_=>rfl
 | b::H,k=>by simp [killB,killB_length H]
theorem frz_ok {ids:List Nat} (hr:HR w I μ (look H)) {t:TV} {v:Value} (hv:VR w I μ t v) :
  ∃ I',Stp w I μ (look H) w I' μ (look (killB ids 0 H))∧HR w I' μ (look (killB ids 0 H))∧VR w I' μ (reify (onlyB ids 0 H) 4 t) v:=by
 have h1:∀ id sz l,look (onlyB ids 0 H) id=.live sz l→id ∈ ids∧look H id=.live sz l:=fun id sz l hl=>by
  rw [look_onlyB] at hl
  split at hl
  ·rename_i hc;exact ⟨by simpa using hc,hl⟩
  ·cases hl
 have h2:∀ id sz l,look (killB ids 0 H) id=.live sz l→id ∉ ids∧look H id=.live sz l:=fun id sz l hl=>by
  rw [look_killB] at hl
  split at hl
  ·cases hl
  ·rename_i hc;exact ⟨by simpa using hc,hl⟩
 obtain ⟨a1,a2⟩:=hr.sub fun id sz l hl=>(h1 id sz l hl).2
 obtain ⟨b1,b2⟩:=hr.sub fun id sz l hl=>(h2 id sz l hl).2
 refine ⟨Rd I μ (look (onlyB ids 0 H)),⟨WStep.refl _ _,fun b k h=>.inl h,fun b k h=>.inl (h.imp (fun h=>h) (a2 b k)),Mu.le_refl _,fun b k h=>.inl (b2 b k h)⟩,⟨fun id sz l hl=>?_,b1.disj,fun b k hf hi=>?_,⟨fun b k hi=>?_,fun p hp=>⟨(hr.lt.g p hp).1,fun k=>.inl ((hr.lt.g p hp).2 k)⟩⟩⟩,?_⟩
 ·obtain ⟨loc,c,ty,fr,g1,g2,g3⟩:=b1.live id sz l hl
  exact ⟨loc,c,ty,fr,g1,g2,g3.mono ((Ext.refl w).same I) (fun _ _ h=>.inl h) (Mu.le_refl _)⟩
 ·rcases hi with h | ⟨id',sz',l',loc',f1,f2,f3,f4,f5⟩
  ·exact b1.noI b k hf h
  ·obtain ⟨id,sz,l,loc,e1,e2,e3,e4,e5⟩:=hf
   obtain ⟨c1,c2⟩:=h2 id sz l e1
   obtain ⟨d1,d2⟩:=h1 id' sz' l' f1
   exact hr.disj id id' sz l sz' l' loc loc' c2 d2 (fun hh=>c1 (by rw [hh];exact d1)) e2 f2 (by rw [e3,f3]) k e4 e5 f4 f5
 ·rcases hi with h | h
  ·exact hr.lt b k h
  ·exact foot_lt a1 h
 ·exact (reify_ok a1 4 hv).mono ((Ext.refl w).same _) (fun _ _ h=>h) _ (Mu.none_le _)
def MRuleOk (P:Program) (f p:Nat) (F:MRule):Prop :=
 Enters P f∧∀ (ts:List TV) (B:List Blk) (r:TV) (N:List Blk),F ts B=some (r,N)→p≤B.length∧p≤N.length∧∀ (w:World) (I:Nat→Nat→Prop) (μ:Mu) (vs:Array Value),HR w I μ (look B)→(∀ id,B.length≤id→μ id=none)→VRL w I μ ts vs.toList →
  Calls P f vs w fun e w'=>∃ (v:Value) (I':Nat→Nat→Prop) (μ':Mu),e=.returned v∧StpM p w I μ (look B) w' I' μ' (look N)∧HR w' I' μ' (look N)∧(∀ id,N.length≤id→μ' id=none)∧VR w' I' μ' r v
theorem layB_length:∀ (ids:List Nat) (N:List Blk) (H:Heap),(layB H ids N).length=H.length
 | [],_,_=>by simp [layB]
 | x::l,[],H=>by simp [layB]
 | x::l,b::N,H=>by simp only [layB];rw [layB_length l N];simp
theorem layB_other:∀ {ids:List Nat} {N:List Blk} {H:Heap} {id:Nat},id ∉ ids→look (layB H ids N) id=look H id
 | [],_,_,_,_=>by simp [layB]
 | x::l,[],H,_,_=>by simp [layB]
 | x::l,b::N,H,id,h=>by
  simp only [List.mem_cons,not_or] at h
  simp only [layB]
  rw [layB_other h.2,look_set_ne h.1]
theorem layB_at:∀ {ids:List Nat} {N:List Blk} {H:Heap} {k id:Nat},noDup ids=true→(∀ x ∈ ids,x < H.length)→ids.length≤N.length→ids[k]?=some id→look (layB H ids N) id=look N k
 | [],_,_,_,_,_,_,_,h=>by simp at h
 | x::l,[],_,_,_,_,_,hl,_=>by simp at hl
 | x::l,b::N,H,k,id,hd,hx,hl,h=>by
  simp only [noDup,Bool.and_eq_true,Bool.not_eq_true',List.contains_eq_mem,decide_eq_false_iff_not] at hd
  simp only [layB]
  cases k with
  | zero =>
   simp only [List.getElem?_cons_zero,Option.some.injEq] at h
   subst h
   rw [layB_other hd.1,look_set_self (hx _ (by simp))]
   rfl
  | succ k =>
   simp only [List.getElem?_cons_succ] at h
   rw [layB_at hd.2 (fun y hy=>by simpa using hx y (by simp [hy])) (by simpa using hl) h]
   unfold look
   simp
theorem backOf_lt:∀ {ids:List Nat} {base k id:Nat},ids[k]?=some id→backOf base ids k=id
 | [],_,_,_,h=>by simp at h
 | x::l,base,0,id,h=>by simpa [backOf] using h
 | x::l,base,k+1,id,h=>by simp only [backOf];exact backOf_lt (by simpa using h)
theorem backOf_ge:∀ {ids:List Nat} {base k:Nat},ids.length≤k→backOf base ids k=base+(k - ids.length)
 | [],base,k,_=>by cases k <;> simp [backOf]
 | x::l,base,0,h=>by simp at h
 | x::l,base,k+1,h=>by simp only [backOf,List.length_cons];rw [backOf_ge (by simpa using h)];congr 1;omega
theorem look_mapB {ρ:Nat→Option Nat} {N:List Blk} {k:Nat}:look (N.map (renB ρ)) k=renB ρ (look N k):=by
 unfold look
 rw [List.getD_eq_getElem?_getD,List.getD_eq_getElem?_getD,List.getElem?_map]
 cases N[k]? <;> rfl
theorem WStep.wide {F G:Nat→Nat→Prop} {w w':World} (h:WStep F w w') (hFG:∀ b k,F b k→G b k):WStep G w w' :=
 ⟨h.os,h.tape,h.output,h.size,fun b hb hn=>h.other b hb fun k hk=>hn k (hFG _ _ hk),fun b c ty fr hb=>let ⟨c',fr',h1,h2,h3,h4⟩:=h.row b c ty fr hb;⟨c',fr',h1,h2,fun k hk=>h3 k fun hf=>hk (hFG _ _ hf),h4.imp (fun h=>h) fun h=>⟨fun k hk=>hFG _ _ (h.1 k hk),h.2⟩⟩⟩
end
section
variable {P:Program} {S:Sys} {w:World} {I:Nat→Nat→Prop} {μ:Mu} {H H':Heap} {v:TV}
theorem callM_ok (hS:∀ f tag (F:Nat×MRule),S.mrule f tag=some F→MRuleOk P f F.1 F.2) {f tag:Nat} {ids:List Nat} (hr:HR w I μ (look H)) (hdom:∀ id,H.length≤id→μ id=none) {ts:List TV} {vs:Array Value} (hvs:VRL w I μ ts vs.toList)
  (h:callM S H f tag ids ts=some (v,H')) :
  Enters P f∧Calls P f vs w fun e w'=>∃ (vv:Value) (I':Nat→Nat→Prop) (μ':Mu),e=.returned vv∧Stp w I μ (look H) w' I' μ' (look H')∧HR w' I' μ' (look H')∧(∀ id,H'.length≤id→μ' id=none)∧VR w' I' μ' v vv:=by
 unfold callM at h
 cases hF:S.mrule f tag with
 | none=>rw [hF] at h;cases h
 | some pF =>
  obtain ⟨p,F⟩:=pF
  rw [hF] at h
  simp only at h
  obtain ⟨hent,hcall⟩:=hS f tag _ hF
  refine ⟨hent,?_⟩
  split at h
  ·rename_i hc
   obtain ⟨hd,hlt⟩:=hc
   have hlt:∀ x ∈ ids,x < H.length:=by simpa using hlt
   cases hres:F (ts.map (ren (posOf ids) 4)) (keepH H ids) with
   | none=>rw [hres] at h;cases h
   | some p =>
    obtain ⟨r,N⟩:=p
    rw [hres] at h
    simp only [Option.some.injEq,Prod.mk.injEq] at h
    obtain ⟨rfl,rfl⟩:=h
    obtain ⟨hpl,hlen,hcall⟩:=hcall _ _ _ _ hres
    have hkl:(keepH H ids).length=ids.length:=by simp [keepH]
    rw [hkl] at hpl hcall
    have hpd:noDup (ids.take p)=true:=noDup_take hd p
    have hpt:(ids.take p).length=p:=by simp;omega
    have hpm:∀ x,x ∈ ids.take p→x ∈ ids:=fun x hx=>List.mem_of_mem_take hx
    have hpg:∀ {k id:Nat},(ids.take p)[k]?=some id→ids[k]?=some id∧k < p:=fun {k id} hk=>by
     rw [List.getElem?_take] at hk
     split at hk
     ·rename_i h1;exact ⟨hk,h1⟩
     ·cases hk
    have hkill:(killB (ids.drop p) 0 H).length=H.length:=killB_length H 0
    rw [hpt]
    dsimp only at hpl hlen hcall
    obtain ⟨hrB,hfB⟩:=hr.pickK hd (B:=keepH H ids) fun k sz l hl=>let ⟨id,l0,g1,g2,g3⟩:=keepH_look hl;⟨id,l0,g1,g2,.inl g3⟩
    have hargs:VRL w I (muK μ ids) (ts.map (ren (posOf ids) 4)) vs.toList:=by
     refine ⟨by simpa using hvs.1,fun k t v h1 h2=>?_⟩
     obtain ⟨u,hu,rfl⟩:=map_get h1
     exact ren_ok posOf_mu 4 (hvs.2 k u v hu h2)
    refine (hcall w I (muK μ ids) vs hrB (fun id hid=>by unfold muK;rw [List.getElem?_eq_none hid];rfl) hargs).mono fun e w' ⟨vv,I',μ1,he,hs,hr1,hdom1,hvr⟩=>?_
    -- the places afterwards
    let μ':Mu:=fun id=>match posOf (ids.take p) id with | some k=>μ1 k | none=>if H.length≤id then μ1 (p+(id - H.length)) else μ id
    have m1:∀ {k id},(ids.take p)[k]?=some id→μ' id=μ1 k:=fun {k id} hk=>by show (match posOf (ids.take p) id with | some k=>μ1 k | none=>_)=_;rw [posOf_get hpd hk]
    have m2:∀ {id},H.length≤id→μ' id=μ1 (p+(id - H.length)):=fun {id} hid=>by
     show (match posOf (ids.take p) id with | some k=>μ1 k | none=>if H.length≤id then μ1 (p+(id - H.length)) else μ id)=_
     cases hp:posOf (ids.take p) id with
     | some k=>have:=hlt id (hpm _ (List.mem_of_getElem? (posOf_some hp)));omega
     | none=>simp only [];rw [if_pos hid]
    have m3:∀ {id},id ∉ ids.take p→id < H.length→μ' id=μ id:=fun {id} hn hid=>by
     show (match posOf (ids.take p) id with | some k=>μ1 k | none=>if H.length≤id then μ1 (p+(id - H.length)) else μ id)=_
     cases hp:posOf (ids.take p) id with
     | some k=>exact absurd (List.mem_of_getElem? (posOf_some hp)) hn
     | none=>simp only [];rw [if_neg (by omega)]
    have hback:∀ k id' loc,μ1 k=some loc→some (backOf H.length (ids.take p) k)=some id'→μ' id'=some loc:=fun k id' loc h1 h2=>by
     cases h2
     rcases Nat.lt_or_ge k p with hk | hk
     ·have hg:(ids.take p)[k]?=some ((ids.take p)[k]'(by rw [hpt];exact hk)):=List.getElem?_eq_getElem (by rw [hpt];exact hk)
      rw [backOf_lt hg,m1 hg];exact h1
     ·rw [backOf_ge (by rw [hpt];exact hk),m2 (by omega),hpt]
      rw [show p+(H.length+(k - p) - H.length)=k by omega];exact h1
    have hle:μ.le μ':=fun id loc hl=>by
     cases hp:posOf (ids.take p) id with
     | some k =>
      have hg:=posOf_some hp
      rw [m1 hg]
      refine hs.le k loc (hpg hg).2 ?_
      rw [muK_get (hpg hg).1];exact hl
     | none =>
      have hid:id < H.length:=by
       rcases Nat.lt_or_ge id H.length with h1 | h1
       ·exact h1
       ·rw [hdom id h1] at hl;cases hl
      rw [m3 (posOf_none hp) hid];exact hl
    -- a live block is one of the callee's or one of the others
    have live:∀ (id sz:Nat) (l:List (List TV)) (loc:Loc),look (layB (killB (ids.drop p) 0 H) (ids.take p) (N.map (renB fun k=>some (backOf H.length (ids.take p) k)))++(N.drop p).map (renB fun k=>some (backOf H.length (ids.take p) k))) id=.live sz l →
      (∃ k l0,look N k=.live sz l0∧l=(l0.map fun xs=>xs.map (ren (fun k=>some (backOf H.length (ids.take p) k)) 1))∧backOf H.length (ids.take p) k=id∧μ' id=μ1 k)∨(id ∉ ids∧id < H.length∧look H id=.live sz l∧μ' id=μ id):=fun id sz l loc hl=>by
     by_cases hid:id < H.length
     ·rw [look_app_old (by rw [layB_length,hkill];exact hid)] at hl
      by_cases hm:id ∈ ids.take p
      ·obtain ⟨k,hk⟩:=List.getElem?_of_mem hm
       rw [layB_at hpd (fun x hx=>by rw [hkill];exact hlt x (hpm x hx)) (by rw [hpt];simpa using hlen) hk,look_mapB] at hl
       obtain ⟨l0,g1,g2⟩:=renB_live hl
       exact .inl ⟨k,l0,g1,g2,backOf_lt hk,m1 hk⟩
      ·rw [layB_other hm,look_killB] at hl
       split at hl
       ·cases hl
       ·rename_i hc
        refine .inr ⟨fun hin=>?_,hid,hl,m3 hm hid⟩
        rw [← List.take_append_drop p ids,List.mem_append] at hin
        rcases hin with h1 | h1
        ·exact hm h1
        ·exact hc (by simpa using h1)
     ·left
      unfold look at hl
      rw [List.getD_eq_getElem?_getD,List.getElem?_append_right (by rw [layB_length,hkill];omega),layB_length,hkill,List.getElem?_map,List.getElem?_drop] at hl
      cases hn:N[p+(id - H.length)]? with
      | none=>rw [hn] at hl;cases hl
      | some b =>
       rw [hn] at hl
       obtain ⟨l0,g1,g2⟩:=renB_live hl
       refine ⟨p+(id - H.length),l0,by unfold look;rw [List.getD_eq_getElem?_getD,hn];exact g1,g2,?_,m2 (by omega)⟩
       rw [backOf_ge (by rw [hpt];omega),hpt];omega
    have hsame:Same I w w':=hs.ws.same fun b k hf=>by
     obtain ⟨id,j,sz,l,loc,_,g2,g3,g4,g5,g6⟩:=hfB b k hf
     exact hr.noI b k ⟨id,sz,l,loc,g2,g3,g4,g5,g6⟩
    have oldlt:∀ (id sz:Nat) (l:List (List TV)) (loc:Loc),look H id=.live sz l→μ id=some loc→loc.blk < w.heap.size:=fun id sz l loc h1 h2=>by
     obtain ⟨loc',c,ty,fr,k1,k2,_⟩:=hr.live id sz l h1
     rw [h2] at k1
     cases k1
     exact (Array.getElem?_eq_some_iff.1 k2).1
    have cross:∀ k l0 sz id l sz' loc loc' q,look N k=.live sz l0→μ1 k=some loc→id ∉ ids→look H id=.live sz' l→μ id=some loc'→loc.blk=loc'.blk→loc.off≤q→q < loc.top→loc'.off≤q→q < loc'.top→False:=fun k l0 sz id l sz' loc loc' q h1 h2 h3 h4 h5 h6 q1 q2 q3 q4=>by
     rcases hs.foot loc.blk q ⟨k,sz,l0,loc,h1,h2,rfl,q1,q2⟩ with hf | hf
     ·obtain ⟨id2,j,sz2,l2,loc2,g1,g2,g3,g4,g5,g6⟩:=hfB _ _ hf
      exact hr.disj id2 id sz2 l2 sz' l loc2 loc' g2 h4 (fun hh=>h3 (by rw [← hh];exact List.mem_of_getElem? g1)) g3 h5 (by rw [g4,h6]) q g5 g6 q3 q4
     ·have:=oldlt id sz' l loc' h4 h5
      omega
    have hfoot:∀ b k,Foot μ' (look (layB (killB (ids.drop p) 0 H) (ids.take p) (N.map (renB fun k=>some (backOf H.length (ids.take p) k)))++(N.drop p).map (renB fun k=>some (backOf H.length (ids.take p) k)))) b k→Foot μ1 (look N) b k∨∃ id sz l loc,id ∉ ids∧look H id=.live sz l∧μ id=some loc∧loc.blk=b∧loc.off≤k∧k < loc.top:=fun b k ⟨id,sz,l,loc,f1,f2,f3,f4,f5⟩=>by
     rcases live id sz l loc f1 with ⟨k',l0,g1,g2,g3,g4⟩ | ⟨g1,g2,g3,g4⟩
     ·exact .inl ⟨k',sz,l0,loc,g1,by rw [← g4];exact f2,f3,f4,f5⟩
     ·exact .inr ⟨id,sz,l,loc,g1,g3,by rw [← g4];exact f2,f3,f4,f5⟩
    refine ⟨vv,I',μ',he,⟨hs.ws.wide fun b k hf=>?_,hs.up,fun b k hi=>?_,hle,fun b k hf=>?_⟩,⟨fun id sz l hl=>?_,fun id id' sz l sz' l' loc loc' h1 h2 hne n1 n2 hblk q q1 q2 q3 q4=>?_,fun b k hf hi=>?_,hr1.lt⟩,fun id hid=>?_,ren_ok hback 2 hvr⟩
    ·obtain ⟨id,j,sz,l,loc,_,g2,g3,g4,g5,g6⟩:=hfB b k hf
     exact ⟨id,sz,l,loc,g2,g3,g4,g5,g6⟩
    ·rcases hs.new b k hi with (h1 | h1) | h1
     ·exact .inl (.inl h1)
     ·obtain ⟨id,j,sz,l,loc,_,g2,g3,g4,g5,g6⟩:=hfB b k h1
      exact .inl (.inr ⟨id,sz,l,loc,g2,g3,g4,g5,g6⟩)
     ·exact .inr h1
    ·rcases hfoot b k hf with h1 | h1
     ·rcases hs.foot b k h1 with h2 | h2
      ·obtain ⟨id,j,sz,l,loc,_,g2,g3,g4,g5,g6⟩:=hfB b k h2
       exact .inl ⟨id,sz,l,loc,g2,g3,g4,g5,g6⟩
      ·exact .inr h2
     ·obtain ⟨id,sz,l,loc,_,g2,g3,g4,g5,g6⟩:=h1
      exact .inl ⟨id,sz,l,loc,g2,g3,g4,g5,g6⟩
    ·rcases live id sz l ⟨0,0,0,0,0,0⟩ hl with ⟨k',l0,g1,g2,g3,g4⟩ | ⟨g1,g2,g3,g4⟩
     ·subst g2
      obtain ⟨loc,c,ty,fr,a1,a2,a3⟩:=hr1.live k' sz l0 g1
      exact ⟨loc,c,ty,fr,by rw [g4];exact a1,a2,a3.ren hback⟩
     ·obtain ⟨loc,c,ty,fr,a1,a2,a3⟩:=hr.live id sz l g3
      obtain ⟨c',fr',e1,e2,e3,e4⟩:=hs.ws.row _ _ _ _ a2
      have a3':=a3.mono hsame hs.up hle
      have hfrz:∀ k,loc.off≤k→k < loc.top→frz fr' k=false:=fun k q1 q2=>by
       rcases e4 with rfl | ⟨e5,_⟩
       ·exact a3'.frozen k q1 q2
       ·have hsz':=a3'.size
        obtain ⟨id2,j,sz2,l2,loc2,d1,d2,d3,d4,d5,d6⟩:=hfB _ _ (e5 k (by omega))
        exact (hr.disj id2 id sz2 l2 sz l loc2 loc d2 g3 (fun hh=>g1 (by rw [← hh];exact List.mem_of_getElem? d1)) d3 a1 d4 _ d5 d6 q1 q2).elim
      refine ⟨loc,c',ty,fr',by rw [g4];exact a1,e1,a3'.hsz,⟨a3'.hty.1,by rw [e2];exact a3'.hty.2⟩,by rw [e2];exact a3'.size,a3'.fits,hfrz,a3'.each,fun i xs k t hi hk=>?_⟩
      obtain ⟨u,b1,b2⟩:=a3'.cells i xs k t hi hk
      refine ⟨u,?_,b2⟩
      rw [e3]
      ·exact b1
      ·intro hf
       obtain ⟨id2,j,sz2,l2,loc2,d1,d2,d3,d4,d5,d6⟩:=hfB _ _ hf
       have hil:i < l.length:=(List.getElem?_eq_some_iff.1 hi).1
       have hkl':k < sz:=by rw [← a3'.each xs (List.mem_of_getElem? hi)];exact (List.getElem?_eq_some_iff.1 hk).1
       have hx:=idx_lt hil hkl'
       have hft:=a3'.fits
       exact hr.disj id2 id sz2 l2 sz l loc2 loc d2 g3 (fun hh=>g1 (by rw [← hh];exact List.mem_of_getElem? d1)) d3 a1 d4 _ d5 d6 (by omega) (by omega)
    ·rcases live id sz l loc h1 with ⟨k1,l1,g1,g2,g3,g4⟩ | ⟨g1,g2,g3,g4⟩
     ·rw [g4] at n1
      rcases live id' sz' l' loc' h2 with ⟨k2,l2,e1,e2,e3,e4⟩ | ⟨e1,e2,e3,e4⟩
      ·rw [e4] at n2
       exact hr1.disj k1 k2 sz l1 sz' l2 loc loc' g1 e1 (fun hh=>hne (by rw [← g3,← e3,hh])) n1 n2 hblk q q1 q2 q3 q4
      ·rw [e4] at n2
       exact cross k1 l1 sz id' l' sz' loc loc' q g1 n1 e1 e3 n2 hblk q1 q2 q3 q4
     ·rw [g4] at n1
      rcases live id' sz' l' loc' h2 with ⟨k2,l2,e1,e2,e3,e4⟩ | ⟨e1,e2,e3,e4⟩
      ·rw [e4] at n2
       exact cross k2 l2 sz' id l sz loc' loc q e1 n2 g1 g3 n1 hblk.symm q3 q4 q1 q2
      ·rw [e4] at n2
       exact hr.disj id id' sz l sz' l' loc loc' g3 e3 hne n1 n2 hblk q q1 q2 q3 q4
    ·rcases hfoot b k hf with h1 | h1
     ·exact hr1.noI b k h1 hi
     ·obtain ⟨id,sz,l,loc,e1,e2,e3,e4,e5,e6⟩:=h1
      rcases hs.new b k hi with (h2 | h2) | h2
      ·exact hr.noI b k ⟨id,sz,l,loc,e2,e3,e4,e5,e6⟩ h2
      ·obtain ⟨id2,j,sz2,l2,loc2,g1,g2,g3,g4,g5,g6⟩:=hfB b k h2
       exact hr.disj id2 id sz2 l2 sz l loc2 loc g2 e2 (fun hh=>e1 (by rw [← hh];exact List.mem_of_getElem? g1)) g3 e3 (by rw [g4,e4]) k g5 g6 e5 e6
      ·have:=oldlt id sz l loc e2 e3
       omega
    ·have hid':H.length+(N.length - p)≤id:=by simpa [layB_length,hkill] using hid
     rw [m2 (by omega)]
     exact hdom1 _ (by omega)
  ·cases h
theorem op_callM {o:Oper} {a:Act} {f tag:Nat} {ids:List Nat} (hS:∀ f tag (F:Nat×MRule),S.mrule f tag=some F→MRuleOk P f F.1 F.2) (hr:HR w I μ (look H)) (hdom:∀ id,H.length≤id→μ id=none) {ts:List TV} {vs:Array Value} (hvs:VRL w I μ ts vs.toList)
  (h:callM S H f tag ids ts=some (v,H')) (hrun:Enters P f→(execOp a.eval o).run P w=.ok (.enter f vs) w):MOk P o a w I μ H v H':=by
 obtain ⟨hent,hc⟩:=callM_ok hS hr hdom hvs h
 intro K Q hK
 unfold Oper.wp
 rw [hrun hent]
 simp only [Oper.upon]
 refine hc.mono fun en w' ⟨vv,I',μ',he,h1,h2,h3,h4⟩=>?_
 subst he
 exact hK vv w' I' μ' h1 h2 h3 h4
end
end Go.Proofs.TM
