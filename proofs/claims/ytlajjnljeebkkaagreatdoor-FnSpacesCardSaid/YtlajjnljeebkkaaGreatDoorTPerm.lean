import Derived.Orders
namespace Go.Proofs.TM
open Go
def placeOf:List Nat→Nat→Nat
 | [],_=>0
 | x::l,i=>if x=i then 0 else placeOf l i+1
def renOper (σ:List Nat) (o:Oper):Oper:={ o with after:=o.after.map fun e=>{ e with on:=placeOf σ e.on },guard:=o.guard.map fun p=>(placeOf σ p.1,p.2) }
def permOps (σ:List Nat) (ops:Array Oper):Array Oper:=(σ.map fun i=>renOper σ (ops.getD i default)).toArray
def permOk (σ:List Nat) (ops:Array Oper):Bool :=
 decide (σ.length=ops.size) && (List.range ops.size).all fun j=>decide (σ.getD j 0 < ops.size) && decide (placeOf σ (σ.getD j 0)=j) && decide (placeOf σ j < ops.size) && decide (σ.getD (placeOf σ j) 0=j)
structure PermF (σ:List Nat) (ops:Array Oper):Prop where
 len:σ.length=ops.size
 lt:∀ j,j < ops.size→σ.getD j 0 < ops.size
 back:∀ j,j < ops.size→placeOf σ (σ.getD j 0)=j
 plt:∀ j,j < ops.size→placeOf σ j < ops.size
 pback:∀ j,j < ops.size→σ.getD (placeOf σ j) 0=j
theorem PermF.of {σ:List Nat} {ops:Array Oper} (h:permOk σ ops=true):PermF σ ops:=by
 unfold permOk at h
 simp only [Bool.and_eq_true,decide_eq_true_eq,List.all_eq_true,List.mem_range] at h
 exact ⟨h.1,fun j hj=>(h.2 j hj).1.1.1,fun j hj=>(h.2 j hj).1.1.2,fun j hj=>(h.2 j hj).1.2,fun j hj=>(h.2 j hj).2⟩
theorem placeOf_none:∀ (σ:List Nat) (i:Nat),i ∉ σ→placeOf σ i=σ.length
 | [],_,_=>rfl
 | x::l,i,h=>by
  simp only [List.mem_cons,not_or] at h
  simp only [placeOf,List.length_cons]
  rw [if_neg (fun e=>h.1 e.symm),placeOf_none l i h.2]
section
variable {σ:List Nat} {ops:Array Oper}
theorem PermF.high (F:PermF σ ops) {i:Nat} (h:ops.size≤i):placeOf σ i=ops.size:=by
 rw [placeOf_none,F.len]
 intro hm
 obtain ⟨j,hj,hx⟩:=List.mem_iff_getElem.1 hm
 have:=F.lt j (by rw [← F.len];exact hj)
 rw [List.getD_eq_getElem?_getD,List.getElem?_eq_getElem hj] at this
 simp only [Option.getD_some] at this
 omega
theorem PermF.size (F:PermF σ ops):(permOps σ ops).size=ops.size:=by simp [permOps,F.len]
theorem PermF.get (F:PermF σ ops) {i:Nat} (h:i < ops.size):(permOps σ ops)[placeOf σ i]?=some (renOper σ ops[i]):=by
 have hp:=F.plt i h
 have hb:=F.pback i h
 have hl:placeOf σ i < σ.length:=by rw [F.len];exact hp
 unfold permOps
 rw [List.getElem?_toArray,List.getElem?_map,List.getElem?_eq_getElem hl,Option.map_some]
 rw [List.getD_eq_getElem?_getD,List.getElem?_eq_getElem hl,Option.getD_some] at hb
 rw [hb]
 simp [h]
theorem PermF.getJ (F:PermF σ ops) {j:Nat} {o:Oper} (h:(permOps σ ops)[j]?=some o):j < ops.size∧∃ h:σ.getD j 0 < ops.size,o=renOper σ ops[σ.getD j 0]:=by
 have hj:j < ops.size:=by
  rw [← F.size];exact (Array.getElem?_eq_some_iff.1 h).1
 refine ⟨hj,F.lt j hj,?_⟩
 have:=F.get (F.lt j hj)
 rw [F.back j hj,h] at this
 exact Option.some.inj this
theorem PermF.dst (F:PermF σ ops) (g:Nat):((permOps σ ops)[placeOf σ g]?).bind (·.dst)=(ops[g]?).bind (·.dst):=by
 by_cases h:g < ops.size
 ·rw [F.get h,Array.getElem?_eq_getElem h];rfl
 ·rw [F.high (by omega),Array.getElem?_eq_none (by rw [F.size];omega),Array.getElem?_eq_none (by omega)]
theorem PermF.yielded (F:PermF σ ops) (tmps:Array Value) (g:Nat):Go.yielded (permOps σ ops) tmps (placeOf σ g)=Go.yielded ops tmps g:=by
 unfold Go.yielded
 rw [F.dst]
theorem PermF.wanted (F:PermF σ ops) (o:Oper) (tmps:Array Value):Region.wanted (renOper σ o) (Go.yielded (permOps σ ops) tmps)=Region.wanted o (Go.yielded ops tmps):=by
 unfold Region.wanted renOper
 cases o.guard with
 | none=>rfl
 | some p=>simp only [Option.map_some,F.yielded]
theorem PermF.wpOp {P:Program} {Q:Exit→Act→World→Prop} (F:PermF σ ops) {i:Nat} (h:i < ops.size) {K:Act→World→Prop} {a:Act} {w:World} (hw:Go.wpOp P (permOps σ ops) Q (placeOf σ i) K a w):Go.wpOp P ops Q i K a w:=by
 unfold Go.wpOp at *
 rw [F.get h] at hw
 rw [Array.getElem?_eq_getElem h]
 simp only at hw ⊢
 rw [F.wanted] at hw
 exact hw
theorem wpAny_perm {P:Program} {Q:Exit→Act→World→Prop} (F:PermF σ ops):∀ (fuel:Nat) (listed listed':Array Bool),listed.size=ops.size→listed'.size=ops.size→(∀ i,i < ops.size→listed'.getD (placeOf σ i) false=listed.getD i false) →
  ∀ (a:Act) (w:World),wpAny P .any (permOps σ ops) Q fuel listed' a w→wpAny P .any ops Q fuel listed a w:=by
 -- what is ready
 have all:∀ (listed listed':Array Bool),listed.size=ops.size→listed'.size=ops.size→(∀ i,i < ops.size→listed'.getD (placeOf σ i) false=listed.getD i false)→∀ i,listed'.getD (placeOf σ i) false=listed.getD i false:=by
  intro listed listed' hs hs' hl i
  by_cases h:i < ops.size
  ·exact hl i h
  ·rw [F.high (by omega)]
   simp [hs,hs',show ¬ i < ops.size by omega]
 have tf:∀ (l:Array Bool) (i:Nat),i < l.size→l.getD i true=l.getD i false:=fun l i h=>by simp [h]
 have rdy:∀ (listed listed':Array Bool),listed.size=ops.size→listed'.size=ops.size→(∀ i,i < ops.size→listed'.getD (placeOf σ i) false=listed.getD i false)→∀ i,i ∈ Region.ready .any ops listed→i < ops.size∧placeOf σ i ∈ Region.ready .any (permOps σ ops) listed':=by
  intro listed listed' hs hs' hl i hi
  obtain ⟨h0,o,ho,hall⟩:=mem_ready.1 hi
  have hil:i < ops.size:=(Array.getElem?_eq_some_iff.1 ho).1
  have hoe:o=ops[i]:=by rw [Array.getElem?_eq_getElem hil] at ho;exact (Option.some.inj ho).symm
  refine ⟨hil,mem_ready.2 ⟨?_,_,F.get hil,fun e he hb=>?_⟩⟩
  ·rw [tf _ _ (by rw [hs'];exact F.plt i hil),hl i hil,← tf _ _ (by rw [hs];exact hil)];exact h0
  ·simp only [renOper,Array.mem_map] at he
   obtain ⟨e0,h1,rfl⟩:=he
   rw [all listed listed' hs hs' hl]
   exact hall e0 (by rw [hoe];exact h1) hb
 have rdy':∀ (listed listed':Array Bool),listed.size=ops.size→listed'.size=ops.size→(∀ i,i < ops.size→listed'.getD (placeOf σ i) false=listed.getD i false)→∀ j,j ∈ Region.ready .any (permOps σ ops) listed'→σ.getD j 0 ∈ Region.ready .any ops listed:=by
  intro listed listed' hs hs' hl j hj
  obtain ⟨h0,o,ho,hall⟩:=mem_ready.1 hj
  obtain ⟨hjl,hσ,rfl⟩:=F.getJ ho
  have hb:=F.back j hjl
  refine mem_ready.2 ⟨?_,_,Array.getElem?_eq_getElem hσ,fun e he hbi=>?_⟩
  ·rw [tf _ _ (by rw [hs];exact hσ),← hl _ hσ,hb,← tf _ _ (by rw [hs'];exact hjl)];exact h0
  ·rw [← all listed listed' hs hs' hl]
   exact hall { e with on:=placeOf σ e.on } (by simp only [renOper,Array.mem_map];exact ⟨e,he,rfl⟩) hbi
 have emp:∀ (listed listed':Array Bool),listed.size=ops.size→listed'.size=ops.size→(∀ i,i < ops.size→listed'.getD (placeOf σ i) false=listed.getD i false)→Region.ready .any (permOps σ ops) listed'=[]→Region.ready .any ops listed=[]:=by
  intro listed listed' hs hs' hl h
  cases hr:Region.ready .any ops listed with
  | nil=>rfl
  | cons x xs =>
   have:=(rdy listed listed' hs hs' hl x (by rw [hr];simp)).2
   rw [h] at this;cases this
 have emp':∀ (listed listed':Array Bool),listed.size=ops.size→listed'.size=ops.size→(∀ i,i < ops.size→listed'.getD (placeOf σ i) false=listed.getD i false)→Region.ready .any ops listed=[]→Region.ready .any (permOps σ ops) listed'=[]:=by
  intro listed listed' hs hs' hl h
  cases hr:Region.ready .any (permOps σ ops) listed' with
  | nil=>rfl
  | cons x xs =>
   have:=rdy' listed listed' hs hs' hl x (by rw [hr];simp)
   rw [h] at this;cases this
 intro fuel
 induction fuel with
 | zero =>
  intro listed listed' hs hs' hl a w h
  exact ⟨emp listed listed' hs hs' hl h.1,h.2⟩
 | succ fuel ih =>
  intro listed listed' hs hs' hl a w h
  refine ⟨fun h0=>h.1 (emp' listed listed' hs hs' hl h0),fun i hi=>?_⟩
  obtain ⟨hil,hpi⟩:=rdy listed listed' hs hs' hl i hi
  refine wpOp_mono (fun a' w' h'=>ih _ _ (by simpa using hs) (by simpa using hs') (fun k hk=>?_) a' w' h') (F.wpOp hil (h.2 _ hpi))
  by_cases hki:i=k
  ·subst hki
   simp [hs,hs',hil,F.plt i hil]
  ·have hne:placeOf σ i ≠ placeOf σ k:=fun e=>hki (by rw [← F.pback i hil,e,F.pback k hk])
   rw [getD_set_ne false hne,getD_set_ne false hki]
   exact hl k hk
end
def Reord (P:Program) (ops ops':Array Oper):Prop :=
 ∀ (Q:Exit→Act→World→Prop) (a:Act) (w:World),wpAny P .any ops' Q ops'.size (Array.replicate ops'.size false) a w→wpAny P .any ops Q ops.size (Array.replicate ops.size false) a w
theorem Reord.refl (P:Program) (ops:Array Oper):Reord P ops ops:=fun _ _ _ h=>h
theorem Reord.perm {P:Program} {σ:List Nat} {ops:Array Oper} (h:permOk σ ops=true):Reord P ops (permOps σ ops):=fun Q a w hw=>by
 have F:=PermF.of h
 rw [F.size] at hw
 refine wpAny_perm F _ _ _ (by simp) (by simp) (fun i hi=>?_) a w hw
 simp [hi,F.plt i hi]
def reordOk (σ:List Nat) (ops:Array Oper):Bool:=σ.isEmpty || permOk σ ops
def reord (σ:List Nat) (ops:Array Oper):Array Oper:=if σ.isEmpty then ops else permOps σ ops
theorem Reord.of {P:Program} {σ:List Nat} {ops:Array Oper} (h:reordOk σ ops=true):Reord P ops (reord σ ops):=by
 unfold reordOk at h
 unfold reord
 split
 ·exact Reord.refl P ops
 ·rename_i hs
  rw [Bool.or_eq_true] at h
  exact Reord.perm (h.resolve_left hs)
end Go.Proofs.TM
