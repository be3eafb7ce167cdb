import Derived.Test.YtlajjnljeebkkaaGreatDoorTOps
namespace Go.Proofs.TM
open Go
theorem VR.any {w:World} {I:Nat→Nat→Prop} {μ:Mu} {t:TV} {v:Value} (h:VR w I Mu.none t v):VR w I μ t v:=h.mono ((Ext.refl w).same I) (fun _ _ h=>h) _ (Mu.none_le _)
theorem VR.vs_any {w:World} {I:Nat→Nat→Prop} {μ μ':Mu} {l:List (List TV)} {v:Value} (h:VR w I μ (.vs l) v):VR w I μ' (.vs l) v:=by
 cases h with
 | vs _ _ a cap sz b o val hcap ha hsz hc hv=>exact .vs _ _ a cap sz b o val hcap ha hsz hc hv
theorem VR.vp_any {w:World} {I:Nat→Nat→Prop} {μ μ':Mu} {l:List TV} {v:Value} (h:VR w I μ (.vp l) v):VR w I μ' (.vp l) v:=by
 cases h with
 | vp _ _ b o val hc hv=>exact .vp _ _ b o val hc hv
def Rd (I:Nat→Nat→Prop) (μ:Mu) (h:Hf) (b k:Nat):Prop:=I b k∨Foot μ h b k
theorem VR.wide {w:World} {I J:Nat→Nat→Prop} {μ:Mu} {t:TV} {v:Value} (h:VR w I μ t v) (hJ:∀ b k,I b k→J b k):VR w J μ t v :=
 h.mono ((Ext.refl w).same I) hJ _ (Mu.le_refl _)
theorem map_get {α β:Type} {f:α→β} {l:List α} {k:Nat} {b:β} (h:(l.map f)[k]?=some b):∃ a,l[k]?=some a∧f a=b:=by
 rw [List.getElem?_map] at h
 cases hl:l[k]? with
 | none=>rw [hl] at h;cases h
 | some a=>rw [hl] at h;exact ⟨a,rfl,by simpa using h⟩
theorem reify_ok {w:World} {I:Nat→Nat→Prop} {μ:Mu} {H:Heap} (hr:HR w I μ (look H)):∀ (d:Nat) {t:TV} {v:Value},VR w I μ t v→VR w (Rd I μ (look H)) Mu.none (reify H d t) v:=by
 have up:∀ {t:TV} {v:Value},VR w I Mu.none t v→VR w (Rd I μ (look H)) Mu.none t v:=fun h=>h.wide (fun _ _ h=>.inl h)
 intro d
 induction d with
 | zero =>
  intro t v h
  cases h with
  | undef μ v =>
   simp only [reify]
   exact .undef _ _
  | int μ k n =>
   simp only [reify]
   exact .int _ _ _
  | bool μ b =>
   simp only [reify]
   exact .bool _ _
  | str μ s =>
   simp only [reify]
   exact .str _ _
  | nilp μ =>
   simp only [reify]
   exact .nilp _
  | vp μ cells b o val hc hv =>
   simp only [reify]
   exact up (VR.vp_any (.vp μ cells b o val hc hv))
  | vs μ l a cap sz b o val hcap ha hsz hc hv =>
   simp only [reify]
   exact up (VR.vs_any (.vs μ l a cap sz b o val hcap ha hsz hc hv))
  | es μ a =>
   simp only [reify]
   exact .vs _ [] a 0 0 0 0 (fun _ _=>Go.undef) ⟨by simp,fun _=>rfl⟩ (fun h=>absurd rfl h) (fun _ h=>by simp at h) (fun i xs k t h=>by simp at h) (fun i xs k t h=>by simp at h)
  | nils μ =>
   simp only [reify]
   exact .vs _ [] none 0 0 0 0 (fun _ _=>Go.undef) ⟨by simp,fun _=>rfl⟩ (fun h=>absurd rfl h) (fun _ h=>by simp at h) (fun i xs k t h=>by simp at h) (fun i xs k t h=>by simp at h)
  | ne μ a cap =>
   simp only [reify]
   exact .vs _ [] (some a) cap 0 0 0 (fun _ _=>Go.undef) ⟨by simp,fun h=>by cases h⟩ (fun h=>absurd rfl h) (fun _ h=>by simp at h) (fun i xs k t h=>by simp at h) (fun i xs k t h=>by simp at h)
  | nilf μ =>
   simp only [reify]
   exact .nilf _
  | nili μ =>
   simp only [reify]
   exact .nili _
  | fn μ f a b x y hx hy ha hb =>
   simp only [reify]
   exact .undef _ _
  | ptr μ id i j loc hm =>
   simp only [reify]
   exact .undef _ _
  | hs μ id off len full loc a cap hm ha hlen htop hf =>
   simp only [reify]
   exact .undef _ _
  | hc μ id off len cap loc a hm ha hlen htop =>
   simp only [reify]
   exact .undef _ _
  | bself μ id T v loc h hT h0 hc hv =>
   simp only [reify]
   exact .undef _ _
  | nb μ =>
   simp only [reify]
   exact .undef _ _
  | hb μ id len T loc cap h hT h0 hsz htop hcap hlen hpos =>
   simp only [reify]
   exact .undef _ _
  | bd μ id T loc h hT h0 hsz htop =>
   simp only [reify]
   exact .undef _ _
  | iface μ t u v h =>
   simp only [reify]
   exact .undef _ _
  | agg μ l cs hl h =>
   simp only [reify]
   exact .undef _ _
  | tup μ l cs hl h =>
   simp only [reify]
   exact .undef _ _
 | succ d ih =>
  intro t v h
  cases h with
  | undef μ v =>
   simp only [reify]
   exact .undef _ _
  | int μ k n =>
   simp only [reify]
   exact .int _ _ _
  | bool μ b =>
   simp only [reify]
   exact .bool _ _
  | str μ s =>
   simp only [reify]
   exact .str _ _
  | nilp μ =>
   simp only [reify]
   exact .nilp _
  | vp μ cells b o val hc hv =>
   simp only [reify]
   exact up (VR.vp_any (.vp μ cells b o val hc hv))
  | vs μ l a cap sz b o val hcap ha hsz hc hv =>
   simp only [reify]
   exact up (VR.vs_any (.vs μ l a cap sz b o val hcap ha hsz hc hv))
  | es μ a =>
   simp only [reify]
   exact .vs _ [] a 0 0 0 0 (fun _ _=>Go.undef) ⟨by simp,fun _=>rfl⟩ (fun h=>absurd rfl h) (fun _ h=>by simp at h) (fun i xs k t h=>by simp at h) (fun i xs k t h=>by simp at h)
  | nils μ =>
   simp only [reify]
   exact .vs _ [] none 0 0 0 0 (fun _ _=>Go.undef) ⟨by simp,fun _=>rfl⟩ (fun h=>absurd rfl h) (fun _ h=>by simp at h) (fun i xs k t h=>by simp at h) (fun i xs k t h=>by simp at h)
  | ne μ a cap =>
   simp only [reify]
   exact .vs _ [] (some a) cap 0 0 0 (fun _ _=>Go.undef) ⟨by simp,fun h=>by cases h⟩ (fun h=>absurd rfl h) (fun _ h=>by simp at h) (fun i xs k t h=>by simp at h) (fun i xs k t h=>by simp at h)
  | nilf μ =>
   simp only [reify]
   exact .nilf _
  | nili μ =>
   simp only [reify]
   exact .nili _
  | ptr μ id i j loc hm =>
   simp only [reify]
   cases hl:H[id]? with
   | none=>exact .undef _ _
   | some b =>
    cases b with
    | dead=>exact .undef _ _
    | live sz l =>
     dsimp only
     cases hx:l[i]? with
     | none=>exact .undef _ _
     | some xs =>
      dsimp only
      obtain ⟨loc',c,ty,fr,h1,h2,h3⟩:=hr.live id sz l (look_live.2 hl)
      rw [hm] at h1
      cases h1
      have hil:i < l.length:=(List.getElem?_eq_some_iff.1 hx).1
      have hxs:xs.length=sz:=h3.each xs (List.mem_of_getElem? hx)
      refine .vp _ _ loc.blk (loc.off+i * loc.sz+j) (fun k=>(c[loc.off+i * sz+(j+k)]?).getD Go.undef) (fun k t hk=>?_) (fun k t hk=>?_)
      ·obtain ⟨u,hu,rfl⟩:=map_get hk
       rw [List.getElem?_drop] at hu
       obtain ⟨vv,hv1,hv2⟩:=h3.cells i xs (j+k) u hx hu
       have hjk:j+k < xs.length:=(List.getElem?_eq_some_iff.1 hu).1
       refine ⟨.inr ⟨id,sz,l,loc,look_live.2 hl,hm,rfl,?_,?_⟩,?_⟩
       ·omega
       ·have:=h3.fits
        have h5:(i+1) * sz≤l.length * sz:=Nat.mul_le_mul_right _ (by omega)
        rw [Nat.add_mul,Nat.one_mul] at h5
        rw [h3.hsz]
        omega
       ·rw [cell_of_heap h2,h3.hsz,show loc.off+i * sz+j+k=loc.off+i * sz+(j+k) by omega,hv1];rfl
      ·obtain ⟨u,hu,rfl⟩:=map_get hk
       rw [List.getElem?_drop] at hu
       obtain ⟨vv,hv1,hv2⟩:=h3.cells i xs (j+k) u hx hu
       rw [hv1]
       exact ih hv2
  | hs μ id off len full loc a cap hm ha hlen htop hf =>
   simp only [reify]
   cases hl:H[id]? with
   | none=>exact .undef _ _
   | some b =>
    cases b with
    | dead=>exact .undef _ _
    | live sz l =>
     dsimp only
     split
     ·rename_i hfit
      obtain ⟨loc',c,ty,fr,h1,h2,h3⟩:=hr.live id sz l (look_live.2 hl)
      rw [hm] at h1
      cases h1
      have hlen':(((l.drop off).take len).map fun xs=>xs.map (reify H d)).length=len:=by simp;omega
      have key:∀ (i:Nat) (xs:List TV) (k:Nat) (t:TV),(((l.drop off).take len).map fun xs=>xs.map (reify H d))[i]?=some xs→xs[k]?=some t →
        ∃ u vv,i < len∧k < sz∧reify H d u=t∧c[loc.off+(off+i) * sz+k]?=some vv∧VR w I μ u vv:=by
       intro i xs k t hi hk
       obtain ⟨ys,hy,rfl⟩:=map_get hi
       obtain ⟨u,hu,rfl⟩:=map_get hk
       rw [List.getElem?_take] at hy
       split at hy
       ·rename_i hil
        rw [List.getElem?_drop] at hy
        obtain ⟨vv,hv1,hv2⟩:=h3.cells (off+i) ys k u hy hu
        have:=h3.each ys (List.mem_of_getElem? hy)
        have hk':k < ys.length:=(List.getElem?_eq_some_iff.1 hu).1
        exact ⟨u,vv,hil,by omega,rfl,hv1,hv2⟩
       ·cases hy
      have:=VR.vs (w:=w) (I:=Rd I μ (look H)) Mu.none (((l.drop off).take len).map fun xs=>xs.map (reify H d)) a cap sz loc.blk (loc.off+off * sz) (fun i k=>(c[loc.off+(off+i) * sz+k]?).getD Go.undef)
       ⟨by rw [hlen'];exact hlen,fun hh=>ha.resolve_right fun h0=>by rw [h0] at hh;cases hh⟩ (fun hne=>?_) (fun xs hx=>?_) (fun i xs k t hi hk=>?_) (fun i xs k t hi hk=>?_)
      ·rw [hlen'] at this
       exact this
      ·rcases ha with h0 | h0
       ·exfalso
        have hl0:len=0:=by omega
        apply hne
        apply List.eq_nil_of_length_eq_zero
        rw [hlen'];exact hl0
       ·rw [h0,h3.hsz]
      ·simp only [List.mem_map] at hx
       obtain ⟨ys,hy,rfl⟩:=hx
       simp only [List.length_map]
       exact h3.each ys (List.mem_of_mem_drop (List.mem_of_mem_take hy))
      ·obtain ⟨u,vv,hi',hk',h4,h5,h6⟩:=key i xs k t hi hk
       have he:loc.off+off * sz+i * sz+k=loc.off+(off+i) * sz+k:=by rw [Nat.add_mul];omega
       refine ⟨.inr ⟨id,sz,l,loc,look_live.2 hl,hm,rfl,by omega,?_⟩,?_⟩
       ·have h7:=h3.fits
        have h8:(off+i+1) * sz≤l.length * sz:=Nat.mul_le_mul_right _ (by omega)
        rw [Nat.add_mul,Nat.one_mul] at h8
        rw [he]
        omega
       ·rw [cell_of_heap h2,he,h5];rfl
      ·obtain ⟨u,vv,hi',hk',h4,h5,h6⟩:=key i xs k t hi hk
       subst h4
       skip
       rw [h5]
       exact ih h6
     ·exact .undef _ _
  | hc μ id off len cap loc a hm ha hlen htop =>
   simp only [reify]
   exact .undef _ _
  | bself μ id T v loc h hT h0 hc hv =>
   simp only [reify]
   exact .undef _ _
  | nb μ =>
   simp only [reify]
   exact .undef _ _
  | hb μ id len T loc cap h hT h0 hsz htop hcap hlen hpos =>
   simp only [reify]
   exact .undef _ _
  | bd μ id T loc h hT h0 hsz htop =>
   simp only [reify]
   exact .undef _ _
  | fn μ f a b x y hx hy ha hb =>
   simp only [reify]
   refine .fn _ _ _ _ _ _ (by simpa using hx) (by simpa using hy) (fun k t v h1 h2=>?_) (fun k t v h1 h2=>?_)
   ·obtain ⟨u,hu,rfl⟩:=map_get h1;exact ih (ha k u v hu h2)
   ·obtain ⟨u,hu,rfl⟩:=map_get h1;exact ih (hb k u v hu h2)
  | iface μ t u v h =>
   simp only [reify]
   exact .iface _ _ _ _ (ih h)
  | agg μ l cs hl h =>
   simp only [reify]
   refine .agg _ _ _ (by simpa using hl) (fun k t v h1 h2=>?_)
   obtain ⟨u,hu,rfl⟩:=map_get h1;exact ih (h k u v hu h2)
  | tup μ l cs hl h =>
   simp only [reify]
   refine .tup _ _ _ (by simpa using hl) (fun k t v h1 h2=>?_)
   obtain ⟨u,hu,rfl⟩:=map_get h1;exact ih (h k u v hu h2)
theorem reify_noId_ok {w:World} {I:Nat→Nat→Prop} {μ:Mu} {H:Heap}:∀ (d:Nat) {t:TV} {v:Value},noId d t=true→VR w I μ t v→VR w I Mu.none (reify H d t) v:=by
 intro d
 induction d with
 | zero =>
  intro t v hn h
  cases h with
  | undef μ v =>
   simp only [reify]
   exact .undef _ _
  | int μ k n =>
   simp only [reify]
   exact .int _ _ _
  | bool μ b =>
   simp only [reify]
   exact .bool _ _
  | str μ s =>
   simp only [reify]
   exact .str _ _
  | nilp μ =>
   simp only [reify]
   exact .nilp _
  | vp μ cells b o val hc hv =>
   simp only [reify]
   exact VR.vp_any (.vp μ cells b o val hc hv)
  | vs μ l a cap sz b o val hcap ha hsz hc hv =>
   simp only [reify]
   exact VR.vs_any (.vs μ l a cap sz b o val hcap ha hsz hc hv)
  | es μ a =>
   simp only [reify]
   exact .vs _ [] a 0 0 0 0 (fun _ _=>Go.undef) ⟨by simp,fun _=>rfl⟩ (fun h=>absurd rfl h) (fun _ h=>by simp at h) (fun i xs k t h=>by simp at h) (fun i xs k t h=>by simp at h)
  | nils μ =>
   simp only [reify]
   exact .vs _ [] none 0 0 0 0 (fun _ _=>Go.undef) ⟨by simp,fun _=>rfl⟩ (fun h=>absurd rfl h) (fun _ h=>by simp at h) (fun i xs k t h=>by simp at h) (fun i xs k t h=>by simp at h)
  | ne μ a cap =>
   simp only [reify]
   exact .vs _ [] (some a) cap 0 0 0 (fun _ _=>Go.undef) ⟨by simp,fun h=>by cases h⟩ (fun h=>absurd rfl h) (fun _ h=>by simp at h) (fun i xs k t h=>by simp at h) (fun i xs k t h=>by simp at h)
  | nilf μ =>
   simp only [reify]
   exact .nilf _
  | nili μ =>
   simp only [reify]
   exact .nili _
  | fn μ f a b x y hx hy ha hb =>
   simp [noId] at hn
  | ptr μ id i j loc hm =>
   simp [noId] at hn
  | hs μ id off len full loc a cap hm ha hlen htop hf =>
   simp [noId] at hn
  | hc μ id off len cap loc a hm ha hlen htop =>
   simp [noId] at hn
  | bself μ id T v loc h hT h0 hc hv =>
   simp [noId] at hn
  | nb μ =>
   simp only [reify]
   exact .undef _ _
  | hb μ id len T loc cap h hT h0 hsz htop hcap hlen hpos =>
   simp [noId] at hn
  | bd μ id T loc h hT h0 hsz htop =>
   simp [noId] at hn
  | iface μ t u v h =>
   simp [noId] at hn
  | agg μ l cs hl h =>
   simp [noId] at hn
  | tup μ l cs hl h =>
   simp [noId] at hn
 | succ d ih =>
  intro t v hn h
  cases h with
  | undef μ v =>
   simp only [reify]
   exact .undef _ _
  | int μ k n =>
   simp only [reify]
   exact .int _ _ _
  | bool μ b =>
   simp only [reify]
   exact .bool _ _
  | str μ s =>
   simp only [reify]
   exact .str _ _
  | nilp μ =>
   simp only [reify]
   exact .nilp _
  | vp μ cells b o val hc hv =>
   simp only [reify]
   exact VR.vp_any (.vp μ cells b o val hc hv)
  | vs μ l a cap sz b o val hcap ha hsz hc hv =>
   simp only [reify]
   exact VR.vs_any (.vs μ l a cap sz b o val hcap ha hsz hc hv)
  | es μ a =>
   simp only [reify]
   exact .vs _ [] a 0 0 0 0 (fun _ _=>Go.undef) ⟨by simp,fun _=>rfl⟩ (fun h=>absurd rfl h) (fun _ h=>by simp at h) (fun i xs k t h=>by simp at h) (fun i xs k t h=>by simp at h)
  | nils μ =>
   simp only [reify]
   exact .vs _ [] none 0 0 0 0 (fun _ _=>Go.undef) ⟨by simp,fun _=>rfl⟩ (fun h=>absurd rfl h) (fun _ h=>by simp at h) (fun i xs k t h=>by simp at h) (fun i xs k t h=>by simp at h)
  | ne μ a cap =>
   simp only [reify]
   exact .vs _ [] (some a) cap 0 0 0 (fun _ _=>Go.undef) ⟨by simp,fun h=>by cases h⟩ (fun h=>absurd rfl h) (fun _ h=>by simp at h) (fun i xs k t h=>by simp at h) (fun i xs k t h=>by simp at h)
  | nilf μ =>
   simp only [reify]
   exact .nilf _
  | nili μ =>
   simp only [reify]
   exact .nili _
  | ptr μ id i j loc hm =>
   simp [noId] at hn
  | hs μ id off len full loc a cap hm ha hlen htop hf =>
   simp [noId] at hn
  | hc μ id off len cap loc a hm ha hlen htop =>
   simp [noId] at hn
  | bself μ id T v loc h hT h0 hc hv =>
   simp [noId] at hn
  | nb μ =>
   simp only [reify]
   exact .undef _ _
  | hb μ id len T loc cap h hT h0 hsz htop hcap hlen hpos =>
   simp [noId] at hn
  | bd μ id T loc h hT h0 hsz htop =>
   simp [noId] at hn
  | fn μ f a b x y hx hy ha hb =>
   simp only [reify]
   simp only [noId,Bool.and_eq_true,List.all_eq_true] at hn
   refine .fn _ _ _ _ _ _ (by simpa using hx) (by simpa using hy) (fun k t v h1 h2=>?_) (fun k t v h1 h2=>?_)
   ·obtain ⟨u,hu,rfl⟩:=map_get h1;exact ih (hn.1 u (List.mem_of_getElem? hu)) (ha k u v hu h2)
   ·obtain ⟨u,hu,rfl⟩:=map_get h1;exact ih (hn.2 u (List.mem_of_getElem? hu)) (hb k u v hu h2)
  | iface μ t u v h =>
   simp only [reify]
   exact .iface _ _ _ _ (ih (by simpa [noId] using hn) h)
  | agg μ l cs hl h =>
   simp only [reify]
   simp only [noId,List.all_eq_true] at hn
   refine .agg _ _ _ (by simpa using hl) (fun k t v h1 h2=>?_)
   obtain ⟨u,hu,rfl⟩:=map_get h1;exact ih (hn u (List.mem_of_getElem? hu)) (h k u v hu h2)
  | tup μ l cs hl h =>
   simp only [reify]
   simp only [noId,List.all_eq_true] at hn
   refine .tup _ _ _ (by simpa using hl) (fun k t v h1 h2=>?_)
   obtain ⟨u,hu,rfl⟩:=map_get h1;exact ih (hn u (List.mem_of_getElem? hu)) (h k u v hu h2)
theorem clean_ok {w:World} {I J:Nat→Nat→Prop} {μ:Mu}:∀ (d:Nat) {t:TV} {v:Value},clean d t=true→VR w I μ t v→VR w J μ t v:=by
 have base:∀ {μ:Mu} {l:List (List TV)} {v:Value},l=[]→VR w I μ (.vs l) v→VR w J μ (.vs l) v:=by
  intro μ l v hl h
  subst hl
  cases h with
  | vs _ _ a cap sz b o val hcap ha hsz hc hv=>exact .vs _ [] a cap sz b o val hcap ha hsz (fun i xs k t h=>by simp at h) (fun i xs k t h=>by simp at h)
 intro d
 induction d with
 | zero =>
  intro t v hn h
  cases h with
  | undef μ v =>
   simp [clean] at hn
  | int μ k n =>
   exact .int _ _ _
  | bool μ b =>
   exact .bool _ _
  | str μ s =>
   exact .str _ _
  | nilp μ =>
   exact .nilp _
  | vp μ cells b o val hc hv =>
   simp [clean] at hn
  | vs μ l a cap sz b o val hcap ha hsz hc hv =>
   refine base ?_ (.vs μ l a cap sz b o val hcap ha hsz hc hv)
   cases l with
   | nil=>rfl
   | cons x y=>simp [clean] at hn
  | es μ a =>
   exact .es _ _
  | nils μ =>
   exact .nils _
  | ne μ a cap =>
   simp [clean] at hn
  | nilf μ =>
   exact .nilf _
  | nili μ =>
   exact .nili _
  | fn μ f a b x y hx hy ha hb =>
   simp [clean] at hn
  | ptr μ id i j loc hm =>
   simp [clean] at hn
  | iface μ t u v h =>
   simp [clean] at hn
  | hs μ id off len full loc a cap hm ha hlen htop hf =>
   exact .hs _ _ _ _ _ loc a cap hm ha hlen htop hf
  | hc μ id off len cap loc a hm ha hlen htop =>
   exact .hc _ _ _ _ _ loc a hm ha hlen htop
  | bself μ id T v loc h hT h0 hc hv =>
   exact .bself _ _ _ _ loc h hT h0 hc hv
  | nb μ =>
   exact .nb _
  | hb μ id len T loc cap h hT h0 hsz htop hcap hlen hpos =>
   exact .hb _ _ _ _ loc _ h hT h0 hsz htop hcap hlen hpos
  | bd μ id T loc h hT h0 hsz htop =>
   exact .bd _ _ _ loc h hT h0 hsz htop
  | agg μ l cs hl h =>
   simp [clean] at hn
  | tup μ l cs hl h =>
   simp [clean] at hn
 | succ d ih =>
  intro t v hn h
  cases h with
  | undef μ v =>
   simp [clean] at hn
  | int μ k n =>
   exact .int _ _ _
  | bool μ b =>
   exact .bool _ _
  | str μ s =>
   exact .str _ _
  | nilp μ =>
   exact .nilp _
  | vp μ cells b o val hc hv =>
   simp [clean] at hn
  | vs μ l a cap sz b o val hcap ha hsz hc hv =>
   refine base ?_ (.vs μ l a cap sz b o val hcap ha hsz hc hv)
   cases l with
   | nil=>rfl
   | cons x y=>simp [clean] at hn
  | es μ a =>
   exact .es _ _
  | nils μ =>
   exact .nils _
  | ne μ a cap =>
   simp [clean] at hn
  | nilf μ =>
   exact .nilf _
  | nili μ =>
   exact .nili _
  | fn μ f a b x y hx hy ha hb =>
   simp [clean] at hn
  | ptr μ id i j loc hm =>
   simp [clean] at hn
  | iface μ t u v h =>
   simp [clean] at hn
  | hs μ id off len full loc a cap hm ha hlen htop hf =>
   exact .hs _ _ _ _ _ loc a cap hm ha hlen htop hf
  | hc μ id off len cap loc a hm ha hlen htop =>
   exact .hc _ _ _ _ _ loc a hm ha hlen htop
  | bself μ id T v loc h hT h0 hc hv =>
   exact .bself _ _ _ _ loc h hT h0 hc hv
  | nb μ =>
   exact .nb _
  | hb μ id len T loc cap h hT h0 hsz htop hcap hlen hpos =>
   exact .hb _ _ _ _ loc _ h hT h0 hsz htop hcap hlen hpos
  | bd μ id T loc h hT h0 hsz htop =>
   exact .bd _ _ _ loc h hT h0 hsz htop
  | agg μ l cs hl h =>
   simp only [clean,List.all_eq_true] at hn
   exact .agg _ _ _ hl (fun k t v h1 h2=>ih (hn t (List.mem_of_getElem? h1)) (h k t v h1 h2))
  | tup μ l cs hl h =>
   simp only [clean,List.all_eq_true] at hn
   exact .tup _ _ _ hl (fun k t v h1 h2=>ih (hn t (List.mem_of_getElem? h1)) (h k t v h1 h2))
theorem shift_ok {w:World} {I:Nat→Nat→Prop} {μ μ':Mu} {s:Nat} (hs:∀ id loc,μ id=some loc→μ' (id+s)=some loc):∀ (d:Nat) {t:TV} {v:Value},VR w I μ t v→VR w I μ' (shift s d t) v:=by
 intro d
 induction d with
 | zero =>
  intro t v h
  cases h with
  | undef μ v =>
   simp only [shift]
   exact .undef _ _
  | int μ k n =>
   simp only [shift]
   exact .int _ _ _
  | bool μ b =>
   simp only [shift]
   exact .bool _ _
  | str μ s =>
   simp only [shift]
   exact .str _ _
  | nilp μ =>
   simp only [shift]
   exact .nilp _
  | vp μ cells b o val hc hv =>
   simp only [shift]
   exact .vp _ cells b o val hc hv
  | vs μ l a cap sz b o val hcap ha hsz hc hv =>
   simp only [shift]
   exact .vs _ l a cap sz b o val hcap ha hsz hc hv
  | es μ a =>
   simp only [shift]
   exact .es _ _
  | nils μ =>
   simp only [shift]
   exact .nils _
  | ne μ a cap =>
   simp only [shift]
   exact .ne _ _ _
  | nilf μ =>
   simp only [shift]
   exact .nilf _
  | nili μ =>
   simp only [shift]
   exact .nili _
  | ptr μ id i j loc hm =>
   simp only [shift]
   exact .ptr _ _ _ _ _ (hs _ _ hm)
  | hs μ id off len full loc a cap hm ha hlen htop hf =>
   simp only [shift]
   exact .hs _ _ _ _ _ loc a cap (hs _ _ hm) ha hlen htop hf
  | hc μ id off len cap loc a hm ha hlen htop =>
   simp only [shift]
   exact .hc _ _ _ _ _ loc a (hs _ _ hm) ha hlen htop
  | bself μ id T v loc h hT h0 hc hv =>
   simp only [shift]
   exact .bself _ _ _ _ loc (hs _ _ h) hT h0 hc hv
  | nb μ =>
   simp only [shift]
   exact .nb _
  | hb μ id len T loc cap h hT h0 hsz htop hcap hlen hpos =>
   simp only [shift]
   exact .hb _ _ _ _ loc _ (hs _ _ h) hT h0 hsz htop hcap hlen hpos
  | bd μ id T loc h hT h0 hsz htop =>
   simp only [shift]
   exact .bd _ _ _ loc (hs _ _ h) hT h0 hsz htop
  | fn μ f a b x y hx hy ha hb =>
   simp only [shift]
   exact .undef _ _
  | iface μ t u v h =>
   simp only [shift]
   exact .undef _ _
  | agg μ l cs hl h =>
   simp only [shift]
   exact .undef _ _
  | tup μ l cs hl h =>
   simp only [shift]
   exact .undef _ _
 | succ d ih =>
  intro t v h
  cases h with
  | undef μ v =>
   simp only [shift]
   exact .undef _ _
  | int μ k n =>
   simp only [shift]
   exact .int _ _ _
  | bool μ b =>
   simp only [shift]
   exact .bool _ _
  | str μ s =>
   simp only [shift]
   exact .str _ _
  | nilp μ =>
   simp only [shift]
   exact .nilp _
  | vp μ cells b o val hc hv =>
   simp only [shift]
   exact .vp _ cells b o val hc hv
  | vs μ l a cap sz b o val hcap ha hsz hc hv =>
   simp only [shift]
   exact .vs _ l a cap sz b o val hcap ha hsz hc hv
  | es μ a =>
   simp only [shift]
   exact .es _ _
  | nils μ =>
   simp only [shift]
   exact .nils _
  | ne μ a cap =>
   simp only [shift]
   exact .ne _ _ _
  | nilf μ =>
   simp only [shift]
   exact .nilf _
  | nili μ =>
   simp only [shift]
   exact .nili _
  | ptr μ id i j loc hm =>
   simp only [shift]
   exact .ptr _ _ _ _ _ (hs _ _ hm)
  | hs μ id off len full loc a cap hm ha hlen htop hf =>
   simp only [shift]
   exact .hs _ _ _ _ _ loc a cap (hs _ _ hm) ha hlen htop hf
  | hc μ id off len cap loc a hm ha hlen htop =>
   simp only [shift]
   exact .hc _ _ _ _ _ loc a (hs _ _ hm) ha hlen htop
  | bself μ id T v loc h hT h0 hc hv =>
   simp only [shift]
   exact .bself _ _ _ _ loc (hs _ _ h) hT h0 hc hv
  | nb μ =>
   simp only [shift]
   exact .nb _
  | hb μ id len T loc cap h hT h0 hsz htop hcap hlen hpos =>
   simp only [shift]
   exact .hb _ _ _ _ loc _ (hs _ _ h) hT h0 hsz htop hcap hlen hpos
  | bd μ id T loc h hT h0 hsz htop =>
   simp only [shift]
   exact .bd _ _ _ loc (hs _ _ h) hT h0 hsz htop
  | fn μ f a b x y hx hy ha hb =>
   simp only [shift]
   refine .fn _ _ _ _ _ _ (by simpa using hx) (by simpa using hy) (fun k t v h1 h2=>?_) (fun k t v h1 h2=>?_)
   ·obtain ⟨u,hu,rfl⟩:=map_get h1;exact ih (ha k u v hu h2)
   ·obtain ⟨u,hu,rfl⟩:=map_get h1;exact ih (hb k u v hu h2)
  | iface μ t u v h =>
   simp only [shift]
   exact .iface _ _ _ _ (ih h)
  | agg μ l cs hl h =>
   simp only [shift]
   refine .agg _ _ _ (by simpa using hl) (fun k t v h1 h2=>?_)
   obtain ⟨u,hu,rfl⟩:=map_get h1;exact ih (h k u v hu h2)
  | tup μ l cs hl h =>
   simp only [shift]
   refine .tup _ _ _ (by simpa using hl) (fun k t v h1 h2=>?_)
   obtain ⟨u,hu,rfl⟩:=map_get h1;exact ih (h k u v hu h2)
theorem ren_ok {w:World} {I:Nat→Nat→Prop} {μ μ':Mu} {ρ:Nat→Option Nat} (hs:∀ id id' loc,μ id=some loc→ρ id=some id'→μ' id'=some loc):∀ (d:Nat) {t:TV} {v:Value},VR w I μ t v→VR w I μ' (ren ρ d t) v:=by
 intro d
 induction d with
 | zero =>
  intro t v h
  cases h with
  | undef μ v =>
   simp only [ren]
   exact .undef _ _
  | int μ k n =>
   simp only [ren]
   exact .int _ _ _
  | bool μ b =>
   simp only [ren]
   exact .bool _ _
  | str μ s =>
   simp only [ren]
   exact .str _ _
  | nilp μ =>
   simp only [ren]
   exact .nilp _
  | vp μ cells b o val hc hv =>
   simp only [ren]
   exact .vp _ cells b o val hc hv
  | vs μ l a cap sz b o val hcap ha hsz hc hv =>
   simp only [ren]
   exact .vs _ l a cap sz b o val hcap ha hsz hc hv
  | es μ a =>
   simp only [ren]
   exact .es _ _
  | nils μ =>
   simp only [ren]
   exact .nils _
  | ne μ a cap =>
   simp only [ren]
   exact .ne _ _ _
  | nilf μ =>
   simp only [ren]
   exact .nilf _
  | nili μ =>
   simp only [ren]
   exact .nili _
  | ptr μ id i j loc hm =>
   simp only [ren]
   cases hρ:ρ id with
   | none=>exact .undef _ _
   | some id'=>exact .ptr _ _ _ _ _ (hs _ _ _ hm hρ)
  | hs μ id off len full loc a cap hm ha hlen htop hf =>
   simp only [ren]
   cases hρ:ρ id with
   | none=>exact .undef _ _
   | some id'=>exact .hs _ _ _ _ _ loc a cap (hs _ _ _ hm hρ) ha hlen htop hf
  | hc μ id off len cap loc a hm ha hlen htop =>
   simp only [ren]
   cases hρ:ρ id with
   | none=>exact .undef _ _
   | some id'=>exact .hc _ _ _ _ _ loc a (hs _ _ _ hm hρ) ha hlen htop
  | bself μ id T v loc h hT h0 hc hv =>
   simp only [ren]
   cases hρ:ρ id with
   | none=>exact .undef _ _
   | some id'=>exact .bself _ _ _ _ loc (hs _ _ _ h hρ) hT h0 hc hv
  | nb μ =>
   simp only [ren]
   exact .nb _
  | hb μ id len T loc cap h hT h0 hsz htop hcap hlen hpos =>
   simp only [ren]
   cases hρ:ρ id with
   | none=>exact .undef _ _
   | some id'=>exact .hb _ _ _ _ loc _ (hs _ _ _ h hρ) hT h0 hsz htop hcap hlen hpos
  | bd μ id T loc h hT h0 hsz htop =>
   simp only [ren]
   cases hρ:ρ id with
   | none=>exact .undef _ _
   | some id'=>exact .bd _ _ _ loc (hs _ _ _ h hρ) hT h0 hsz htop
  | fn μ f a b x y hx hy ha hb =>
   simp only [ren]
   exact .undef _ _
  | iface μ t u v h =>
   simp only [ren]
   exact .undef _ _
  | agg μ l cs hl h =>
   simp only [ren]
   exact .undef _ _
  | tup μ l cs hl h =>
   simp only [ren]
   exact .undef _ _
 | succ d ih =>
  intro t v h
  cases h with
  | undef μ v =>
   simp only [ren]
   exact .undef _ _
  | int μ k n =>
   simp only [ren]
   exact .int _ _ _
  | bool μ b =>
   simp only [ren]
   exact .bool _ _
  | str μ s =>
   simp only [ren]
   exact .str _ _
  | nilp μ =>
   simp only [ren]
   exact .nilp _
  | vp μ cells b o val hc hv =>
   simp only [ren]
   exact .vp _ cells b o val hc hv
  | vs μ l a cap sz b o val hcap ha hsz hc hv =>
   simp only [ren]
   exact .vs _ l a cap sz b o val hcap ha hsz hc hv
  | es μ a =>
   simp only [ren]
   exact .es _ _
  | nils μ =>
   simp only [ren]
   exact .nils _
  | ne μ a cap =>
   simp only [ren]
   exact .ne _ _ _
  | nilf μ =>
   simp only [ren]
   exact .nilf _
  | nili μ =>
   simp only [ren]
   exact .nili _
  | ptr μ id i j loc hm =>
   simp only [ren]
   cases hρ:ρ id with
   | none=>exact .undef _ _
   | some id'=>exact .ptr _ _ _ _ _ (hs _ _ _ hm hρ)
  | hs μ id off len full loc a cap hm ha hlen htop hf =>
   simp only [ren]
   cases hρ:ρ id with
   | none=>exact .undef _ _
   | some id'=>exact .hs _ _ _ _ _ loc a cap (hs _ _ _ hm hρ) ha hlen htop hf
  | hc μ id off len cap loc a hm ha hlen htop =>
   simp only [ren]
   cases hρ:ρ id with
   | none=>exact .undef _ _
   | some id'=>exact .hc _ _ _ _ _ loc a (hs _ _ _ hm hρ) ha hlen htop
  | bself μ id T v loc h hT h0 hc hv =>
   simp only [ren]
   cases hρ:ρ id with
   | none=>exact .undef _ _
   | some id'=>exact .bself _ _ _ _ loc (hs _ _ _ h hρ) hT h0 hc hv
  | nb μ =>
   simp only [ren]
   exact .nb _
  | hb μ id len T loc cap h hT h0 hsz htop hcap hlen hpos =>
   simp only [ren]
   cases hρ:ρ id with
   | none=>exact .undef _ _
   | some id'=>exact .hb _ _ _ _ loc _ (hs _ _ _ h hρ) hT h0 hsz htop hcap hlen hpos
  | bd μ id T loc h hT h0 hsz htop =>
   simp only [ren]
   cases hρ:ρ id with
   | none=>exact .undef _ _
   | some id'=>exact .bd _ _ _ loc (hs _ _ _ h hρ) hT h0 hsz htop
  | fn μ f a b x y hx hy ha hb =>
   simp only [ren]
   refine .fn _ _ _ _ _ _ (by simpa using hx) (by simpa using hy) (fun k t v h1 h2=>?_) (fun k t v h1 h2=>?_)
   ·obtain ⟨u,hu,rfl⟩:=map_get h1;exact ih (ha k u v hu h2)
   ·obtain ⟨u,hu,rfl⟩:=map_get h1;exact ih (hb k u v hu h2)
  | iface μ t u v h =>
   simp only [ren]
   exact .iface _ _ _ _ (ih h)
  | agg μ l cs hl h =>
   simp only [ren]
   refine .agg _ _ _ (by simpa using hl) (fun k t v h1 h2=>?_)
   obtain ⟨u,hu,rfl⟩:=map_get h1;exact ih (h k u v hu h2)
  | tup μ l cs hl h =>
   simp only [ren]
   refine .tup _ _ _ (by simpa using hl) (fun k t v h1 h2=>?_)
   obtain ⟨u,hu,rfl⟩:=map_get h1;exact ih (h k u v hu h2)
theorem coC_ok {w:World} {I:Nat→Nat→Prop} {μ:Mu} {t:TV} {v:Value} (h:VR w I μ t v):VR w I μ (coC t) v:=by
 cases h with
 | nils=>exact .es _ _
 | hs _ id off len full loc a cap hm ha hlen htop hf =>
  cases full with
  | false=>exact .hs _ _ _ _ _ loc a cap hm ha hlen htop hf
  | true =>
   simp only [coC]
   have hc:=(hf rfl).1
   subst hc
   split
   ·rename_i h0;subst h0;exact .es _ _
   ·exact .hs _ _ _ _ _ loc a _ hm ha hlen htop (fun h=>by cases h)
 | hc _ id off len cap loc a hm ha hlen htop=>exact .hc _ _ _ _ _ loc a hm ha hlen htop
 | bself _ id T v loc h hT h0 hc hv=>exact .bself _ _ _ _ loc h hT h0 hc hv
 | nb=>exact .nb _
 | hb _ id len T loc cap h hT h0 hsz htop hcap hlen hpos=>exact .hb _ _ _ _ loc _ h hT h0 hsz htop hcap hlen hpos
 | bd _ id T loc h hT h0 hsz htop=>exact .bd _ _ _ loc h hT h0 hsz htop
 | undef=>exact .undef _ _
 | int=>exact .int _ _ _
 | bool=>exact .bool _ _
 | str=>exact .str _ _
 | nilp=>exact .nilp _
 | ptr _ id i j loc h=>exact .ptr _ _ _ _ loc h
 | vp _ cells b o val hc hv=>exact .vp _ cells b o val hc hv
 | vs _ l a cap sz b o val hcap ha hsz hc hv=>exact .vs _ l a cap sz b o val hcap ha hsz hc hv
 | es=>exact .es _ _
 | ne=>exact .ne _ _ _
 | fn _ f a b x y hx hy ha hb=>exact .fn _ f a b x y hx hy ha hb
 | nilf=>exact .nilf _
 | iface _ t u v h=>exact .iface _ _ _ _ h
 | nili=>exact .nili _
 | agg _ l cs hn h=>exact .agg _ l cs hn h
 | tup _ l cs hn h=>exact .tup _ l cs hn h
theorem treC_ok {w:World} {I:Nat→Nat→Prop} {μ:Mu} {t:TV} {v:Value} (h:VR w I μ t v):VR w I μ (treC t) v:=by
 have nil:∀ {a:Option Addr} {cap:Nat},(a=none→cap=0)→VR w I μ (.vs []) (.slice a 0 cap):=fun {a cap} ha =>
  .vs _ [] a cap 0 0 0 (fun _ _=>Go.undef) ⟨by simp,ha⟩ (fun h=>absurd rfl h) (fun _ h=>by simp at h) (fun i xs k t h=>by simp at h) (fun i xs k t h=>by simp at h)
 cases h with
 | nils=>exact nil fun _=>rfl
 | es=>exact nil fun _=>rfl
 | ne=>exact nil fun h=>by cases h
 | hs _ id off len full loc a cap hm ha hlen htop hf=>exact .hs _ _ _ _ _ loc a cap hm ha hlen htop hf
 | hc _ id off len cap loc a hm ha hlen htop=>exact .hc _ _ _ _ _ loc a hm ha hlen htop
 | bself _ id T v loc h hT h0 hc hv=>exact .bself _ _ _ _ loc h hT h0 hc hv
 | nb=>exact .nb _
 | hb _ id len T loc cap h hT h0 hsz htop hcap hlen hpos=>exact .hb _ _ _ _ loc _ h hT h0 hsz htop hcap hlen hpos
 | bd _ id T loc h hT h0 hsz htop=>exact .bd _ _ _ loc h hT h0 hsz htop
 | undef=>exact .undef _ _
 | int=>exact .int _ _ _
 | bool=>exact .bool _ _
 | str=>exact .str _ _
 | nilp=>exact .nilp _
 | ptr _ id i j loc h=>exact .ptr _ _ _ _ loc h
 | vp _ cells b o val hc hv=>exact .vp _ cells b o val hc hv
 | vs _ l a cap sz b o val hcap ha hsz hc hv=>exact .vs _ l a cap sz b o val hcap ha hsz hc hv
 | fn _ f a b x y hx hy ha hb=>exact .fn _ f a b x y hx hy ha hb
 | nilf=>exact .nilf _
 | iface _ t u v h=>exact .iface _ _ _ _ h
 | nili=>exact .nili _
 | agg _ l cs hn h=>exact .agg _ l cs hn h
 | tup _ l cs hn h=>exact .tup _ l cs hn h
theorem coV_ok {w:World} {I:Nat→Nat→Prop} {μ:Mu} {b:Nat} {t:TV} {v:Value} (h:VR w I μ t v):VR w I μ (coV b t) v:=by
 unfold coV
 split
 ·cases h with
  | agg _ l cs hn h =>
   refine .agg _ _ _ (by simpa using hn) fun k t v h1 h2=>?_
   obtain ⟨u,hu,rfl⟩:=map_get h1
   exact coC_ok (h k u v hu h2)
 ·exact coC_ok h
 ·cases h with
  | agg _ l cs hn h =>
   refine .agg _ _ _ (by simpa using hn) fun k t v h1 h2=>?_
   obtain ⟨u,hu,rfl⟩:=map_get h1
   exact treC_ok (h k u v hu h2)
 ·exact treC_ok h
 ·exact h
end Go.Proofs.TM
