import Derived.Test.YtlajjnljeebkkaaGreatDoorTOpC
import Derived.Laws.Tables
import Derived.Laws.Append
namespace Go.Proofs.TM
open Go
theorem splice_length {xs cs:List TV} {j:Nat} (h:j+cs.length≤xs.length):(splice xs j cs).length=xs.length:=by
 unfold splice;simp;omega
theorem splice_get {xs cs:List TV} {j:Nat} (h:j+cs.length≤xs.length) (k:Nat):(splice xs j cs)[k]?=if j≤k∧k < j+cs.length then cs[k - j]? else xs[k]?:=by
 unfold splice
 have hl:(xs.take j).length=j:=by simp;omega
 by_cases h1:k < j
 ·rw [if_neg (by omega),List.append_assoc,List.getElem?_append_left (by omega),List.getElem?_take,if_pos h1]
 ·by_cases h2:k < j+cs.length
  ·rw [if_pos ⟨by omega,h2⟩,List.append_assoc,List.getElem?_append_right (by omega),hl,List.getElem?_append_left (by omega)]
  ·rw [if_neg (by omega),List.append_assoc,List.getElem?_append_right (by omega),hl,List.getElem?_append_right (by omega),List.getElem?_drop]
   congr 1
   omega
theorem fold_set (l:List Value):∀ (n off:Nat) (cells:Array Value),off+n+l.length≤cells.size →
  ((l.zipIdx n).foldl (fun cs (p:Value×Nat)=>cs.setIfInBounds (off+p.2) p.1) cells).size=cells.size ∧
  ∀ k,((l.zipIdx n).foldl (fun cs (p:Value×Nat)=>cs.setIfInBounds (off+p.2) p.1) cells)[k]?=if off+n≤k∧k < off+n+l.length then l[k - (off+n)]? else cells[k]?:=by
 induction l with
 | nil=>intro n off cells h;exact ⟨rfl,fun k=>by rw [if_neg (by simp)];rfl⟩
 | cons v l ih =>
  intro n off cells h
  simp only [List.zipIdx_cons,List.foldl_cons]
  simp only [List.length_cons] at h
  obtain ⟨h1,h2⟩:=ih (n+1) off (cells.setIfInBounds (off+n) v) (by simp;omega)
  refine ⟨by rw [h1];simp,fun k=>?_⟩
  rw [h2 k]
  by_cases hk:k=off+n
  ·subst hk
   rw [if_neg (by omega),if_pos ⟨by omega,by simp⟩]
   simp [show off+n < cells.size by omega]
  ·by_cases hk2:off+(n+1)≤k∧k < off+(n+1)+l.length
   ·rw [if_pos hk2,if_pos ⟨by omega,by simp;omega⟩]
    rw [show k - (off+n)=(k - (off+(n+1)))+1 by omega,List.getElem?_cons_succ]
   ·rw [if_neg hk2,if_neg (by simp;omega),Array.getElem?_setIfInBounds_ne (by omega)]
section
variable {P:Program} {S:Sys} {o:Oper} {a:Act} {w:World} {I:Nat→Nat→Prop} {μ:Mu} {e:Env} {H:Heap} {base:Nat} {v:TV} {N:List Blk}
def CellsOk (w:World) (I:Nat→Nat→Prop) (μ:Mu) (l:List TV) (cs:Array Value):Prop:=l.length=cs.size∧∀ (k:Nat) (t:TV) (v:Value),l[k]?=some t→cs[k]?=some v→VR w I μ t v
theorem fill_step {cells:Array Value} {zs:List TV} (hz:CellsOk w I μ zs cells) {t:TV} {v:Value} (hv:VR w I μ t v) {cs:List TV} (hcs:cellsOf t=some cs) {off:Nat} (hfit:off+cs.length≤zs.length) :
  v.cells.size=cs.length∧CellsOk w I μ (splice zs off cs) (v.cells.zipIdx.foldl (fun cs (p:Value×Nat)=>cs.setIfInBounds (off+p.2) p.1) cells):=by
 obtain ⟨h1,h2⟩:=cellsOf_ok hcs hv
 refine ⟨h1.symm,?_⟩
 have hz1:=hz.1
 have hf:=fold_set v.cells.toList 0 off cells (by simp;omega)
 have hconv:v.cells.zipIdx.foldl (fun cs (p:Value×Nat)=>cs.setIfInBounds (off+p.2) p.1) cells=(v.cells.toList.zipIdx 0).foldl (fun cs (p:Value×Nat)=>cs.setIfInBounds (off+p.2) p.1) cells:=by
  rw [← Array.foldl_toList,Array.toList_zipIdx]
 rw [hconv]
 refine ⟨by rw [hf.1,splice_length hfit,hz1],fun k t' v' ht hv'=>?_⟩
 rw [splice_get hfit] at ht
 rw [hf.2 k] at hv'
 simp only [Nat.add_zero,Array.length_toList] at hv'
 by_cases hk:off≤k∧k < off+cs.length
 ·rw [if_pos hk] at ht
  rw [if_pos ⟨hk.1,by omega⟩] at hv'
  exact h2 _ t' v' ht (by simpa using hv')
 ·rw [if_neg hk] at ht
  rw [if_neg (by omega)] at hv'
  exact hz.2 k t' v' ht hv'
theorem fill_ok {places:List (Nat×Nat)} {f:Nat→Option (Nat×Nat)} (hf:∀ i p,places[i]?=some p→f i=some p) (he:ER w I μ e a.tmps):∀ {ps:List (Nat×Operand)} {qs:List (Nat×Nat×Opd)},TrParts places ps qs→∀ {zs:List TV} {cells:Array Value},CellsOk w I μ zs cells→∀ {r:List TV},
  fillT zs (qs.map fun p=>(p.1,p.2.1,ev e p.2.2))=some r→∃ cells',Instr.fill f cells (ps.map fun p=>(p.1,a.eval p.2))=some cells'∧CellsOk w I μ r cells':=by
 intro ps qs hps
 induction hps with
 | nil=>intro zs cells hz r h;simp only [List.map_nil,fillT,Option.some.injEq] at h;subst h;exact ⟨cells,rfl,hz⟩
 | @cons i x off size y ps qs hp hx hs ih =>
  intro zs cells hz r h
  simp only [List.map_cons,fillT] at h
  cases hcs:cellsOf (ev e y) with
  | none=>rw [hcs] at h;cases h
  | some cs =>
   rw [hcs] at h
   simp only at h
   split at h
   ·rename_i hfit
    have hstep:=fill_step hz (hx.ok he) hcs (off:=off) (by omega)
    obtain ⟨cells',h1,h2⟩:=ih hstep.2 h
    refine ⟨cells',?_,h2⟩
    have hz1:=hz.1
    simp only [List.map_cons,Instr.fill,hf _ _ hp]
    rw [if_neg (by simp;omega)]
    simpa using h1
   ·cases h
theorem opA_build {t:TypeId} {i:TypeInfo} {z:Value} {zero:List TV} {fs:Array Field} {places:List (Nat×Nat)} {parts:Array (Nat×Operand)} {parts':List (Nat×Nat×Opd)} (ho:o.op=.build t parts) (hi:P.info? t=some i)
  (hu:P.underlying t=some (.struct fs)) (hz:i.zero=some z) (hc:allSome (z.cells.toList.map ofV1)=some zero) (hp:fs.toList.mapM (fun f=>(P.info? f.type).map fun i=>(f.offset,i.size))=some places) (hps:TrParts places parts.toList parts')
  (hr:HR w I μ (look H)) (he:ER w I μ e a.tmps) (h:opA S e H base (.build zero parts')=some (v,N)):AOk P o a w I μ (look H) base v N:=by
 simp only [opA] at h
 cases hf:fillT zero (parts'.map fun p=>(p.1,p.2.1,ev e p.2.2)) with
 | none=>rw [hf] at h;cases h
 | some cs =>
  rw [hf] at h
  simp only [Option.some.injEq,Prod.mk.injEq] at h
  obtain ⟨rfl,rfl⟩:=h
  obtain ⟨cells',h1,h2⟩:=fill_ok (f:=(places.toArray[·]?)) (fun i p h=>by simpa using h) he hps (cells_ok hc w I μ) hf
  refine AOk.pure (vv:=.agg cells') hr ?_ (.agg _ _ _ h2.1 h2.2)
  have hb:P.built t (parts.map fun (i,x)=>(i,a.eval x)).toList=some cells':=by
   unfold Program.built
   simp only [hi,hu,hz,hp]
   rw [← h1]
   congr 1
   simp
  have:=run_build (P:=P) w t (parts.map fun (i,x)=>(i,a.eval x)) cells' hb
  simp [execOp,ho,this]
theorem opA_buildA {t el:TypeId} {i ie:TypeInfo} {z:Value} {zero:List TV} {n:Nat} {parts:Array (Nat×Operand)} {parts':List (Nat×Nat×Opd)} (ho:o.op=.build t parts) (hi:P.info? t=some i)
  (hu:P.underlying t=some (.array n el)) (hie:P.info? el=some ie) (hz:i.zero=some z) (hc:allSome (z.cells.toList.map ofV1)=some zero) (hps:TrParts ((List.range n).map fun k=>(k * ie.size,ie.size)) parts.toList parts')
  (hr:HR w I μ (look H)) (he:ER w I μ e a.tmps) (h:opA S e H base (.build zero parts')=some (v,N)):AOk P o a w I μ (look H) base v N:=by
 simp only [opA] at h
 cases hf:fillT zero (parts'.map fun p=>(p.1,p.2.1,ev e p.2.2)) with
 | none=>rw [hf] at h;cases h
 | some cs =>
  rw [hf] at h
  simp only [Option.some.injEq,Prod.mk.injEq] at h
  obtain ⟨rfl,rfl⟩:=h
  obtain ⟨cells',h1,h2⟩:=fill_ok (f:=fun k=>some (k * ie.size,ie.size)) (fun k p h=>by
   rw [List.getElem?_map,Option.map_eq_some_iff] at h
   obtain ⟨j,hj,rfl⟩:=h
   obtain ⟨_,hj⟩:=List.getElem?_eq_some_iff.1 hj
   rw [List.getElem_range] at hj
   subst hj;rfl) he hps (cells_ok hc w I μ) hf
  refine AOk.pure (vv:=.agg cells') hr ?_ (.agg _ _ _ h2.1 h2.2)
  have hb:P.built t (parts.map fun (i,x)=>(i,a.eval x)).toList=some cells':=by
   unfold Program.built
   simp only [hi,hu,hz,hie]
   rw [← h1]
   congr 1
   simp
  have:=run_build (P:=P) w t (parts.map fun (i,x)=>(i,a.eval x)) cells' hb
  simp [execOp,ho,this]
def RowOk (w:World) (I:Nat→Nat→Prop) (μ:Mu) (sz:Nat) (l:List (List TV)) (cs:List Value):Prop :=
 cs.length=l.length * sz∧(∀ xs ∈ l,xs.length=sz)∧∀ (i:Nat) (xs:List TV) (k:Nat) (t:TV),l[i]?=some xs→xs[k]?=some t→∃ v,cs[i * sz+k]?=some v∧VR w I μ t v
theorem RowOk.nil {sz:Nat}:RowOk w I μ sz [] []:=⟨by simp,fun _ h=>by simp at h,fun i xs k t h=>by simp at h⟩
theorem idx_lt {i k n sz:Nat} (hi:i < n) (hk:k < sz):i * sz+k < n * sz:=by
 have:(i+1) * sz≤n * sz:=Nat.mul_le_mul_right _ hi
 rw [Nat.add_mul,Nat.one_mul] at this
 omega
theorem RowOk.append {sz:Nat} {l l':List (List TV)} {cs cs':List Value} (h:RowOk w I μ sz l cs) (h':RowOk w I μ sz l' cs'):RowOk w I μ sz (l++l') (cs++cs'):=by
 obtain ⟨h1,h2,h3⟩:=h
 obtain ⟨k1,k2,k3⟩:=h'
 refine ⟨by simp [h1,k1,Nat.add_mul],fun xs hx=>?_,fun i xs k t hi hk=>?_⟩
 ·rcases List.mem_append.1 hx with hx | hx
  ·exact h2 xs hx
  ·exact k2 xs hx
 ·by_cases hlt:i < l.length
  ·rw [List.getElem?_append_left hlt] at hi
   obtain ⟨v,hv1,hv2⟩:=h3 i xs k t hi hk
   have:k < sz:=by rw [← h2 xs (List.mem_of_getElem? hi)];exact (List.getElem?_eq_some_iff.1 hk).1
   exact ⟨v,by rw [List.getElem?_append_left (by rw [h1];exact idx_lt hlt this)];exact hv1,hv2⟩
  ·rw [List.getElem?_append_right (by omega)] at hi
   obtain ⟨v,hv1,hv2⟩:=k3 _ xs k t hi hk
   refine ⟨v,?_,hv2⟩
   have hge:l.length * sz≤i * sz:=Nat.mul_le_mul_right _ (by omega)
   rw [List.getElem?_append_right (by rw [h1];omega),h1]
   rw [show i * sz+k - l.length * sz=(i - l.length) * sz+k by rw [Nat.sub_mul];omega]
   exact hv1
theorem RowOk.mono {w':World} {I':Nat→Nat→Prop} {μ':Mu} {sz:Nat} {l:List (List TV)} {cs:List Value} (h:RowOk w I μ sz l cs) (hs:Same I w w') (hI:∀ b k,I b k→I' b k) (hm:μ.le μ'):RowOk w' I' μ' sz l cs :=
 ⟨h.1,h.2.1,fun i xs k t hi hk=>let ⟨v,h1,h2⟩:=h.2.2 i xs k t hi hk;⟨v,h1,h2.mono hs hI _ hm⟩⟩
end
end Go.Proofs.TM
