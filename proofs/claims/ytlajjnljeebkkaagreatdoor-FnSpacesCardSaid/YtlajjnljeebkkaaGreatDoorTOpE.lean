import Derived.Test.YtlajjnljeebkkaaGreatDoorTOpD
import Derived.Laws.MakeOwn
namespace Go.Proofs.TM
open Go
section
variable {P:Program} {S:Sys} {o:Oper} {a:Act} {w:World} {I:Nat→Nat→Prop} {μ:Mu} {e:Env} {H:Heap} {base:Nat} {v:TV} {N:List Blk}
def RowA (w:World) (I:Nat→Nat→Prop) (μ:Mu) (sz:Nat) (l:List (List TV)) (cs:Array Value):Prop :=
 cs.size=l.length * sz∧(∀ xs ∈ l,xs.length=sz)∧∀ (i:Nat) (xs:List TV) (k:Nat) (t:TV),l[i]?=some xs→xs[k]?=some t→∃ v,cs[i * sz+k]?=some v∧VR w I μ t v
theorem RowA.rep {zero:List TV} {z:Array Value} (hz:CellsOk w I μ zero z) (n:Nat):RowA w I μ zero.length (List.replicate n zero) ((Array.range (n * zero.length)).map (z[· % z.size]!)):=by
 refine ⟨by simp,fun xs hx=>by rw [(List.mem_replicate.1 hx).2],fun i xs k t hi hk=>?_⟩
 have hin:i < n:=by have:=(List.getElem?_eq_some_iff.1 hi).1;simpa using this
 have hxs:xs=zero:=by
  rw [List.getElem?_replicate,if_pos hin] at hi
  simpa using hi.symm
 subst hxs
 have hk':k < xs.length:=(List.getElem?_eq_some_iff.1 hk).1
 have hkz:k < z.size:=by rw [← hz.1];exact hk'
 refine ⟨z[k],?_,hz.2 k t _ hk (by simp [hkz])⟩
 have hlt:=idx_lt hin hk'
 have hmod:(i * xs.length+k) % z.size=k:=by
  rw [← hz.1,Nat.mul_comm,Nat.mul_add_mod,Nat.mod_eq_of_lt hk']
 simp [hlt,hmod,hkz]
theorem fillS_ok {sz n:Nat} (he:ER w I μ e a.tmps):∀ {ps:List (Nat×Operand)} {qs:List (Nat×Opd)},TrItems ps qs→∀ {l:List (List TV)} {cells:Array Value},l.length=n→RowA w I μ sz l cells→∀ {r:List (List TV)},
  fillS sz n l (qs.map fun p=>(p.1,ev e p.2))=some r→∃ cells',Instr.fill (fun i=>some (i * sz,sz)) cells (ps.map fun p=>(p.1,a.eval p.2))=some cells'∧r.length=n∧RowA w I μ sz r cells':=by
 intro ps qs hps
 induction hps with
 | nil=>intro l cells hl hz r h;simp only [List.map_nil,fillS,Option.some.injEq] at h;subst h;exact ⟨cells,rfl,hl,hz⟩
 | @cons i x y ps qs hx hs ih =>
  intro l cells hl hz r h
  simp only [List.map_cons,fillS] at h
  cases hcs:cellsOf (ev e y) with
  | none=>rw [hcs] at h;cases h
  | some cs =>
   rw [hcs] at h
   simp only at h
   split at h
   ·rename_i hfit
    obtain ⟨h1,h2⟩:=cellsOf_ok hcs (hx.ok he)
    obtain ⟨z1,z2,z3⟩:=hz
    have hsize:i * sz+sz≤cells.size:=by
     rw [z1]
     have:(i+1) * sz≤l.length * sz:=Nat.mul_le_mul_right _ (by omega)
     rw [Nat.add_mul,Nat.one_mul] at this
     exact this
    have hf:=fold_set (a.eval x).cells.toList 0 (i * sz) cells (by simp;omega)
    have hconv:(a.eval x).cells.zipIdx.foldl (fun cs (p:Value×Nat)=>cs.setIfInBounds (i * sz+p.2) p.1) cells=((a.eval x).cells.toList.zipIdx 0).foldl (fun cs (p:Value×Nat)=>cs.setIfInBounds (i * sz+p.2) p.1) cells:=by
     rw [← Array.foldl_toList,Array.toList_zipIdx]
    have hrow:RowA w I μ sz (l.set i cs) ((a.eval x).cells.zipIdx.foldl (fun cs (p:Value×Nat)=>cs.setIfInBounds (i * sz+p.2) p.1) cells):=by
     rw [hconv]
     refine ⟨by rw [hf.1,z1];simp,fun xs hx'=>?_,fun j xs k t hj hk=>?_⟩
     ·rcases List.mem_or_eq_of_mem_set hx' with h' | h'
      ·exact z2 xs h'
      ·rw [h'];exact hfit.1
     ·have hk':k < sz:=by
       have:xs.length=sz:=by
        rcases List.mem_or_eq_of_mem_set (List.mem_of_getElem? hj) with h' | h'
        ·exact z2 xs h'
        ·rw [h'];exact hfit.1
       rw [← this];exact (List.getElem?_eq_some_iff.1 hk).1
      rw [hf.2]
      simp only [Nat.add_zero,Array.length_toList]
      by_cases hij:i=j
      ·subst hij
       rw [List.getElem?_set_self (by omega)] at hj
       simp only [Option.some.injEq] at hj
       subst hj
       rw [if_pos ⟨by omega,by omega⟩,show i * sz+k - i * sz=k by omega]
       have hkc:k < (a.eval x).cells.size:=by omega
       exact ⟨(a.eval x).cells[k],by simp [hkc],h2 k t _ hk (by simp [hkc])⟩
      ·rw [List.getElem?_set_ne hij] at hj
       obtain ⟨v,hv1,hv2⟩:=z3 j xs k t hj hk
       rw [if_neg]
       ·exact ⟨v,hv1,hv2⟩
       ·rintro ⟨ha,hb⟩
        rcases Nat.lt_or_ge i j with hlt | hge
        ·have:(i+1) * sz≤j * sz:=Nat.mul_le_mul_right _ hlt
         rw [Nat.add_mul,Nat.one_mul] at this
         omega
        ·have:(j+1) * sz≤i * sz:=Nat.mul_le_mul_right _ (by omega)
         rw [Nat.add_mul,Nat.one_mul] at this
         omega
    obtain ⟨cells',k1,k2,k3⟩:=ih (by simpa using hl) hrow h
    refine ⟨cells',?_,k2,k3⟩
    simp only [List.map_cons,Instr.fill]
    rw [if_neg (by simp;omega)]
    simpa using k1
   ·cases h
theorem AOk.rowG {sz n top cap:Nat} {l:List (List TV)} {cs:Array Value} {ty:Nat} {rv:TV} {w1:World} (hr:HR w I μ (look H)) (hfree:μ base=none) (h1:Ext w w1) (w2:World) (hw2:Ext w1 w2) {fr:Nat×Nat}
  (hb:w2.heap[w1.heap.size]?=some (.cells cs ty fr)) (hfr:∀ k,k < top→frz fr k=false) (hn:l.length=n) (htop:top≤cs.size) (hcap:cap * sz≤top) (hncap:n≤cap)
  (hrow:∀ μ',μ.le μ'→(∀ xs ∈ l,xs.length=sz)∧∀ (i:Nat) (xs:List TV) (k:Nat) (t:TV),l[i]?=some xs→xs[k]?=some t→∃ v,cs[i * sz+k]?=some v∧VR w2 I μ' t v)
  (hrun:(execOp a.eval o).run P w=.ok (.value (.slice (some ⟨w1.heap.size,0,none⟩) n cap)) w2)
  (hv:∀ μ',μ' base=some ⟨w1.heap.size,0,sz,top,ty,cs.size⟩→VR w2 I μ' rv (.slice (some ⟨w1.heap.size,0,none⟩) n cap)):AOk P o a w I μ (look H) base rv [.live sz l]:=by
 refine AOk.new (vv:=.slice (some ⟨w1.heap.size,0,none⟩) n cap) (c:=cs) (ty:=ty) (fr:=fr) (top:=top) hr hfree h1 w2 hw2 hb hrun (fun μ' hm=>?_) (fun μ' hm hb'=>hv μ' hb')
 obtain ⟨r1,r2⟩:=hrow μ' hm
 refine ⟨rfl,⟨rfl,rfl⟩,htop,?_,fun k _ hk=>hfr k hk,r1,fun i xs k t hi hk=>?_⟩
 ·have:l.length * sz≤cap * sz:=Nat.mul_le_mul_right _ (by omega)
  simp only [Nat.zero_add]
  omega
 ·simp only [Nat.zero_add]
  exact r2 i xs k t hi hk
theorem AOk.row {sz n top cap:Nat} {l:List (List TV)} {cs:Array Value} {ty:Nat} {full:Bool} {w1:World} (hr:HR w I μ (look H)) (hfree:μ base=none) (h1:Ext w w1) (w2:World) (hw2:Ext w1 w2) {fr:Nat×Nat}
  (hb:w2.heap[w1.heap.size]?=some (.cells cs ty fr)) (hfr:∀ k,k < top→frz fr k=false) (hn:l.length=n) (htop:top≤cs.size) (hcap:cap * sz≤top) (hncap:n≤cap) (hf:full=true→cap=n)
  (hrow:∀ μ',μ.le μ'→(∀ xs ∈ l,xs.length=sz)∧∀ (i:Nat) (xs:List TV) (k:Nat) (t:TV),l[i]?=some xs→xs[k]?=some t→∃ v,cs[i * sz+k]?=some v∧VR w2 I μ' t v)
  (hrun:(execOp a.eval o).run P w=.ok (.value (.slice (some ⟨w1.heap.size,0,none⟩) n cap)) w2) (hfe:full=true→fr.2≤cs.size:=by simp):AOk P o a w I μ (look H) base (.hs base 0 n full) [.live sz l]:=by
 refine AOk.rowG hr hfree h1 w2 hw2 hb hfr hn htop hcap hncap hrow hrun fun μ' hb'=>?_
 refine .hs _ _ _ _ _ _ _ _ hb' ?_ hncap ?_ fun hh=>⟨hf hh,cs,ty,fr,hb,hfe hh⟩
 ·right;simp
 ·simp only [Nat.zero_add];exact hcap
theorem opA_bslice {t el:TypeId} {i:TypeInfo} {z:Value} {zero:List TV} {n:Nat} {parts:Array (Nat×Operand)} {parts':List (Nat×Opd)} (ho:o.op=.buildSlice t n parts) (hu:P.underlying t=some (.slice el)) (hi:P.info? el=some i) (hz:i.zero=some z)
  (hc:allSome (z.cells.toList.map ofV1)=some zero) (hs:i.size=zero.length) (hn:n * zero.length≤16777216) (hps:TrItems parts.toList parts')
  (hr:HR w I μ (look H)) (he:ER w I μ e a.tmps) (hfree:∀ id,base≤id→id < base+N.length→μ id=none) (h:opA S e H base (.bslice zero n parts')=some (v,N)):AOk P o a w I μ (look H) base v N:=by
 have hz':CellsOk w I μ zero z.cells:=cells_ok hc w I μ
 simp only [opA] at h
 split at h
 ·rename_i hn0
  split at h
  ·rename_i hemp
   simp only [Option.some.injEq,Prod.mk.injEq] at h
   obtain ⟨rfl,rfl⟩:=h
   subst hn0
   have hp0:parts.toList=[]:=by
    generalize parts.toList=pl at hps
    cases hps with
    | nil=>rfl
    | cons=>simp at hemp
   refine AOk.ext (vv:=.slice (some ⟨w.heap.size,0,none⟩) 0 0) (w':=w.alloc (.cells #[] el)) hr (Ext.alloc _ _) ?_ (.es _ _)
   simp [execOp,ho,Instr.buildSlice,underlying,hu,sizeOf,typeInfo,hi,zeroValue,hz,hp0,Instr.fill,newRow,Array.range_zero']
  ·cases h
 ·rename_i hn0
  split at h
  ·cases h
  ·rename_i hz0
   cases hfl:fillS zero.length n (List.replicate n zero) (parts'.map fun p=>(p.1,ev e p.2)) with
   | none=>rw [hfl] at h;cases h
   | some l =>
    rw [hfl] at h
    simp only [Option.some.injEq,Prod.mk.injEq] at h
    obtain ⟨rfl,rfl⟩:=h
    obtain ⟨cells',k1,k2,k3⟩:=fillS_ok he hps (by simp) (RowA.rep hz' n) hfl
    refine AOk.row (cs:=cells') (ty:=el) (fr:=(0,0)) (top:=n * zero.length) (cap:=n) hr (hfree base (Nat.le_refl _) (by simp)) (Ext.refl w) (w.alloc (.cells cells' el)) (Ext.alloc _ _) (by show (w.heap.push _)[w.heap.size]?=_;simp)
     (fun k _=>by simp [frz]) k2 (by rw [k3.1,k2];exact Nat.le_refl _) (Nat.le_refl _) (Nat.le_refl _) (fun _=>rfl) (fun μ' hm=>⟨k3.2.1,fun i' xs k t hi' hk=>?_⟩) ?_
    ·obtain ⟨vv,hv1,hv2⟩:=k3.2.2 i' xs k t hi' hk
     exact ⟨vv,hv1,hv2.mono ((Ext.alloc w _).same I) (fun _ _ h=>h) _ hm⟩
    ·have hne:¬ n * zero.length=0:=by
      intro hh
      rcases Nat.mul_eq_zero.1 hh with h' | h' <;> omega
     have hlen:¬ (16777216 < n * zero.length):=by omega
     have hmap:(parts.map fun (i,x)=>(i,a.eval x)).toList=parts.toList.map fun p=>(p.1,a.eval p.2):=by simp
     simp only [execOp,ho,Instr.buildSlice,Sem.run_bind,underlying,run_program,hu,Result.andThen_ok,Sem.run_pure,sizeOf,typeInfo,hi,hs,zeroValue,hz,Nat.reducePow,gt_iff_lt,hlen,if_false,hne,hmap,k1,newRow,run_newObj,World.alloc_eq]
theorem unnil_ok {w:World} {I:Nat→Nat→Prop} {μ:Mu} {t:TV} {v:Value} (h:VR w I μ t v):VR w I μ (unnil t) v:=by
 cases h with
 | nils=>exact .vs _ [] none 0 0 0 0 (fun _ _=>default) ⟨by simp,fun _=>rfl⟩ (by simp) (by simp) (by simp) (by simp)
 | undef=>exact .undef _ _
 | int=>exact .int _ _ _
 | bool=>exact .bool _ _
 | str=>exact .str _ _
 | nilp=>exact .nilp _
 | ptr _ _ _ _ _ h=>exact .ptr _ _ _ _ _ h
 | vp _ _ _ _ _ hc hv=>exact .vp _ _ _ _ _ hc hv
 | vs _ _ _ _ _ _ _ _ hcap ha hsz hc hv=>exact .vs _ _ _ _ _ _ _ _ hcap ha hsz hc hv
 | hs _ _ _ _ _ _ _ _ h ha hlen htop hf=>exact .hs _ _ _ _ _ _ _ _ h ha hlen htop hf
 | hc _ _ _ _ _ _ _ h ha hlen htop=>exact .hc _ _ _ _ _ _ _ h ha hlen htop
 | es=>exact .es _ _
 | ne=>exact .ne _ _ _
 | fn _ _ _ _ _ _ hx hy ha hb=>exact .fn _ _ _ _ _ _ hx hy ha hb
 | nilf=>exact .nilf _
 | iface _ _ _ _ h=>exact .iface _ _ _ _ h
 | nili=>exact .nili _
 | bself _ _ _ _ _ h hT h0 hc hv=>exact .bself _ _ _ _ _ h hT h0 hc hv
 | nb=>exact .nb _
 | hb _ _ _ _ _ _ h hT h0 hsz htop hcap hlen hpos=>exact .hb _ _ _ _ _ _ h hT h0 hsz htop hcap hlen hpos
 | bd _ _ _ _ h hT h0 hsz htop=>exact .bd _ _ _ _ h hT h0 hsz htop
 | agg _ _ _ hn h=>exact .agg _ _ _ hn h
 | tup _ _ _ hn h=>exact .tup _ _ _ hn h
theorem opA_mkslice {t el:TypeId} {i:TypeInfo} {z:Value} {zero:List TV} {x y:Operand} {x' y':Opd} (ho:o.op=.makeSlice t x y) (hu:P.underlying t=some (.slice el)) (hi:P.info? el=some i) (hz:i.zero=some z)
  (hc:allSome (z.cells.toList.map ofV1)=some zero) (hs:i.size=zero.length) (hx:TrX x x') (hy:TrX y y')
  (hr:HR w I μ (look H)) (he:ER w I μ e a.tmps) (hfree:∀ id,base≤id→id < base+N.length→μ id=none) (h:opA S e H base (.mkslice i.bytes zero x' y')=some (v,N)):AOk P o a w I μ (look H) base v N:=by
 have hv:=hx.ok he
 have hw:=hy.ok he
 have hz':CellsOk w I μ zero z.cells:=cells_ok hc w I μ
 simp only [opA] at h
 generalize hct:ev e x'=ct at h hv
 generalize hcv':a.eval x=cv at hv
 generalize hit:ev e y'=it at h hw
 generalize hiv':a.eval y=iv at hw
 cases hv with
 | int _ k n =>
  cases hw with
  | int _ k' c =>
   simp only at h
   split at h
   ·rename_i hh
    obtain ⟨h0,hnc,hbig,hbig2,hpos,hpl⟩:=hh
    subst hnc
    simp only [Option.some.injEq,Prod.mk.injEq] at h
    obtain ⟨rfl,rfl⟩:=h
    obtain ⟨m,rfl⟩:=Int.eq_ofNat_of_zero_le h0
    simp only [Int.ofNat_eq_natCast,Int.toNat_natCast,maxRow] at hbig hbig2 ⊢
    have hz2:CellsOk w I μ (zero.map unnil) z.cells:=⟨by simpa using hz'.1,fun k t v ht hv=>by
     rw [List.getElem?_map] at ht
     obtain ⟨u,hu,rfl⟩:=Option.map_eq_some_iff.1 ht
     exact unnil_ok (hz'.2 k u v hu hv)⟩
    have k3:=RowA.rep hz2 m
    simp only [List.length_map] at k3
    have hb1:(i.bytes:Int) * (m:Int)≤281474976710656:=by
     have:(i.bytes:Int) * (m:Int)=((m * i.bytes:Nat):Int):=by rw [Nat.mul_comm];simp
     rw [this]
     omega
    have hrun:=run_make (P:=P) w t el i z hu hi hz k k' (m:Int) (m:Int) (by omega) (Int.le_refl _) hb1 (by omega)
    simp only [Int.toNat_natCast,hs,madeCells] at hrun
    refine AOk.row (cs:=(Array.range (m * zero.length)).map (z.cells[· % z.cells.size]!)) (ty:=el) (fr:=(0,0)) (top:=m * zero.length) (cap:=m) hr (hfree base (Nat.le_refl _) (by simp)) (Ext.refl w) (w.alloc (.cells ((Array.range (m * zero.length)).map (z.cells[· % z.cells.size]!)) el)) (Ext.alloc _ _)
     (by show (w.heap.push _)[w.heap.size]?=_;simp) (fun k _=>by simp [frz]) (by simp) (by simp) (Nat.le_refl _) (Nat.le_refl _) (fun _=>rfl) (fun μ' hm=>⟨k3.2.1,fun i' xs k t hi' hk=>?_⟩) ?_
    ·obtain ⟨vv,hv1,hv2⟩:=k3.2.2 i' xs k t hi' hk
     exact ⟨vv,hv1,hv2.mono ((Ext.alloc w _).same I) (fun _ _ h=>h) _ hm⟩
    ·simp only [execOp,ho,hcv',hiv',Sem.run_bind,Int.ofNat_eq_natCast,hrun,Result.andThen_ok,Sem.run_pure]
   ·cases h
  | _=>cases h
 | _=>cases h
theorem elems_at (hr:HR w I μ (look H)) {t:TV} {vv:Value} (hv:VR w I μ t vv) {b:List (List TV)} {sz:Nat} (hb:elems H t=some b) (hsz:∀ xs ∈ b,xs.length=sz) {ad:Option Addr} {len cap:Nat} (hvv:vv=.slice ad len cap) :
  len=b.length∧len≤cap∧(b ≠ []→∃ B O,ad=some ⟨B,O,none⟩∧∃ g:Nat→Nat→Value,∀ (i:Nat) (xs:List TV) (k:Nat) (t:TV),b[i]?=some xs→xs[k]?=some t→w.cell? ⟨B,O+i * sz+k,none⟩=some (g i k)∧VR w I μ t (g i k)):=by
 cases hv with
 | vs _ l ad' cap' sz' B O val hcap ha hsz' hc hv =>
  simp only [elems,Option.some.injEq] at hb
  subst hb
  cases hvv
  refine ⟨rfl,hcap.1,fun hne=>⟨B,O,ha hne,val,fun i xs k t hi hk=>?_⟩⟩
  have hs:sz'=sz:=by rw [← hsz' xs (List.mem_of_getElem? hi),hsz xs (List.mem_of_getElem? hi)]
  subst hs
  exact ⟨(hc i xs k t hi hk).2,(hv i xs k t hi hk).any⟩
 | hs _ id off len' full loc ad' cap' hm ha hlen htop hf =>
  simp only [elems] at hb
  cases hvv
  cases hl:H[id]? with
  | none=>rw [hl] at hb;cases hb
  | some bk =>
   rw [hl] at hb
   cases bk with
   | dead=>cases hb
   | live sz' l =>
    simp only at hb
    split at hb
    ·rename_i hfit
     simp only [Option.some.injEq] at hb
     subst hb
     obtain ⟨loc',c,ty,fr,h1,h2,h3⟩:=hr.live id sz' l (look_live.2 hl)
     rw [hm] at h1
     cases h1
     refine ⟨by simp;omega,hlen,fun hne=>?_⟩
     have hpos:0 < len:=by
      rcases Nat.eq_zero_or_pos len with h0 | h0
      ·exfalso;apply hne;rw [h0];simp
      ·exact h0
     have ha':ad=some ⟨loc.blk,loc.off+off * loc.sz,none⟩:=by
      rcases ha with h0 | h0
      ·omega
      ·exact h0
     refine ⟨loc.blk,loc.off+off * loc.sz,ha',fun i k=>(c[loc.off+(off+i) * sz'+k]?).getD undef,fun i xs k t hi hk=>?_⟩
     have hmem:xs ∈ l:=List.mem_of_mem_drop (List.mem_of_mem_take (List.mem_of_getElem? hi))
     have hs:sz'=sz:=by rw [← h3.each xs hmem,hsz xs (List.mem_of_getElem? hi)]
     subst hs
     have hil:i < len:=by
      have:=(List.getElem?_eq_some_iff.1 hi).1
      simp at this;omega
     rw [List.getElem?_take,if_pos hil,List.getElem?_drop] at hi
     obtain ⟨v,hv1,hv2⟩:=h3.cells (off+i) xs k t hi hk
     dsimp only
     rw [hv1]
     refine ⟨?_,hv2⟩
     rw [cell_of_heap h2,h3.hsz,show loc.off+off * sz'+i * sz'+k=loc.off+(off+i) * sz'+k by rw [Nat.add_mul];omega]
     exact hv1
    ·cases hb
 | hc _ id off len' cap' loc ad' hm ha hlen htop =>
  simp only [elems] at hb
  cases hvv
  cases hl:H[id]? with
  | none=>rw [hl] at hb;cases hb
  | some bk =>
   rw [hl] at hb
   cases bk with
   | dead=>cases hb
   | live sz' l =>
    simp only at hb
    split at hb
    ·rename_i hfit
     simp only [Option.some.injEq] at hb
     subst hb
     obtain ⟨loc',c,ty,fr,h1,h2,h3⟩:=hr.live id sz' l (look_live.2 hl)
     rw [hm] at h1
     cases h1
     refine ⟨by simp;omega,hlen,fun hne=>?_⟩
     have hpos:0 < len:=by
      rcases Nat.eq_zero_or_pos len with h0 | h0
      ·exfalso;apply hne;rw [h0];simp
      ·exact h0
     have ha':ad=some ⟨loc.blk,loc.off+off * loc.sz,none⟩:=by
      rcases ha with h0 | h0
      ·omega
      ·exact h0
     refine ⟨loc.blk,loc.off+off * loc.sz,ha',fun i k=>(c[loc.off+(off+i) * sz'+k]?).getD undef,fun i xs k t hi hk=>?_⟩
     have hmem:xs ∈ l:=List.mem_of_mem_drop (List.mem_of_mem_take (List.mem_of_getElem? hi))
     have hs:sz'=sz:=by rw [← h3.each xs hmem,hsz xs (List.mem_of_getElem? hi)]
     subst hs
     have hil:i < len:=by
      have:=(List.getElem?_eq_some_iff.1 hi).1
      simp at this;omega
     rw [List.getElem?_take,if_pos hil,List.getElem?_drop] at hi
     obtain ⟨v,hv1,hv2⟩:=h3.cells (off+i) xs k t hi hk
     dsimp only
     rw [hv1]
     refine ⟨?_,hv2⟩
     rw [cell_of_heap h2,h3.hsz,show loc.off+off * sz'+i * sz'+k=loc.off+(off+i) * sz'+k by rw [Nat.add_mul];omega]
     exact hv1
    ·cases hb
 | es =>
  simp only [elems,Option.some.injEq] at hb
  subst hb
  cases hvv
  exact ⟨rfl,Nat.le_refl _,fun h=>absurd rfl h⟩
 | nils =>
  simp only [elems,Option.some.injEq] at hb
  subst hb
  cases hvv
  exact ⟨rfl,Nat.le_refl _,fun h=>absurd rfl h⟩
 | ne =>
  simp only [elems,Option.some.injEq] at hb
  subst hb
  cases hvv
  exact ⟨rfl,Nat.zero_le _,fun h=>absurd rfl h⟩
 | str=>cases hvv
 | _=>cases hb
theorem row_of_at {b:List (List TV)} {sz:Nat} (hsz:∀ xs ∈ b,xs.length=sz) {B O:Nat} {g:Nat→Nat→Value}
  (hg:∀ (i:Nat) (xs:List TV) (k:Nat) (t:TV),b[i]?=some xs→xs[k]?=some t→w.cell? ⟨B,O+i * sz+k,none⟩=some (g i k)∧VR w I μ t (g i k)) :
  ∃ news:List Value,RowOk w I μ sz b news∧∀ (j:Nat) (v:Value),news[j]?=some v→w.cell? ⟨B,O+j,none⟩=some v:=by
 rcases Nat.eq_zero_or_pos sz with h0 | hpos
 ·subst h0
  exact ⟨[],⟨by simp,hsz,fun i xs k t hi hk=>by
   have:=hsz xs (List.mem_of_getElem? hi)
   have:=(List.getElem?_eq_some_iff.1 hk).1
   omega⟩,fun j v h=>by simp at h⟩
 refine ⟨(List.range (b.length * sz)).map fun j=>g (j / sz) (j % sz),⟨by simp,hsz,fun i xs k t hi hk=>?_⟩,fun j v hj=>?_⟩
 ·have hib:i < b.length:=(List.getElem?_eq_some_iff.1 hi).1
  have hk':k < sz:=by rw [← hsz xs (List.mem_of_getElem? hi)];exact (List.getElem?_eq_some_iff.1 hk).1
  refine ⟨g i k,?_,(hg i xs k t hi hk).2⟩
  have hd:(i * sz+k) / sz=i:=by rw [Nat.mul_comm,Nat.mul_add_div hpos,Nat.div_eq_of_lt hk'];simp
  have hm:(i * sz+k) % sz=k:=by rw [Nat.mul_comm,Nat.mul_add_mod,Nat.mod_eq_of_lt hk']
  simp [idx_lt hib hk',hd,hm]
 ·have hlt:j < b.length * sz:=by have:=(List.getElem?_eq_some_iff.1 hj).1;simpa using this
  have hib:j / sz < b.length:=by rw [Nat.div_lt_iff_lt_mul hpos];exact hlt
  have hk':j % sz < sz:=Nat.mod_lt _ hpos
  simp [hlt] at hj
  subst hj
  have hx:b[j / sz]?=some b[j / sz]:=List.getElem?_eq_getElem hib
  have hl:=hsz _ (List.mem_of_getElem? hx)
  have:=(hg (j / sz) _ (j % sz) _ hx (List.getElem?_eq_getElem (by omega))).1
  rw [show O+j / sz * sz+j % sz=O+j by have:=Nat.div_add_mod j sz;rw [Nat.mul_comm] at this;omega] at this
  exact this
theorem src_ok (hr:HR w I μ (look H)) {t:TV} {vv:Value} (hv:VR w I μ t vv) {b:List (List TV)} {sz:Nat} (hb:elems H t=some b) (hsz:∀ xs ∈ b,xs.length=sz) :
  ∃ news:List Value,RowOk w I μ sz b news∧(∀ w',(Builtin.lenOf vv).run P w'=.ok b.length w')∧∀ w',Ext w w'→(Builtin.firstCells sz b.length vv).run P w'=.ok news.toArray w':=by
 have slice:∀ {ad:Option Addr} {len cap:Nat},vv=.slice ad len cap→∃ news:List Value,RowOk w I μ sz b news∧(∀ w',(Builtin.lenOf vv).run P w'=.ok b.length w')∧∀ w',Ext w w'→(Builtin.firstCells sz b.length vv).run P w'=.ok news.toArray w':=by
  intro ad len cap hvv
  obtain ⟨h1,h2,h3⟩:=elems_at hr hv hb hsz hvv
  subst hvv
  by_cases hne:b=[]
  ·subst hne
   refine ⟨[],RowOk.nil,fun w'=>by simp [Builtin.lenOf,h1],fun w' _=>?_⟩
   cases ad <;> simp [Builtin.firstCells,loadCells,loadCellsFrom]
  ·obtain ⟨B,O,ha,g,hg⟩:=h3 hne
   obtain ⟨news,r1,r2⟩:=row_of_at hsz hg
   refine ⟨news,r1,fun w'=>by simp [Builtin.lenOf,h1],fun w' hx=>?_⟩
   subst ha
   have:=run_loadCells_list (P:=P) w' ⟨B,O,none⟩ news (fun j v hj=>by rw [addr_add _ rfl];exact hx.cell (r2 j v hj))
   rw [r1.1] at this
   simpa [Builtin.firstCells] using this
 cases hv with
 | str _ s =>
  simp only [elems,Option.some.injEq] at hb
  subst hb
  have hlen:(s.data.toList.map fun b=>[TV.int .u8 b.toNat]).length=s.size:=by simp
  refine ⟨s.data.toList.map fun b=>Value.int .u8 b.toNat,⟨?_,hsz,fun i xs k t hi hk=>?_⟩,fun w'=>?_,fun w' hx=>?_⟩
  ·by_cases h0:s.data.toList=[]
   ·simp [h0]
   ·obtain ⟨c,cs,hcs⟩:=List.exists_cons_of_ne_nil h0
    have:=hsz [TV.int .u8 c.toNat] (by rw [hcs];simp)
    simp at this
    subst this
    simp
  ·obtain ⟨c,hc,rfl⟩:=map_get hi
   cases k with
   | zero =>
    simp only [List.getElem?_cons_zero,Option.some.injEq] at hk
    subst hk
    have:=hsz [TV.int .u8 c.toNat] (List.mem_of_getElem? hi)
    simp at this
    subst this
    exact ⟨.int .u8 c.toNat,by simp [hc],.int _ _ _⟩
   | succ k=>simp at hk
  ·simp [Builtin.lenOf]
  ·rw [hlen]
   have:(s.extract 0 s.size)=s:=by simp
   simp [Builtin.firstCells,this]
   apply Array.ext'
   simp
 | vs _ l ad cap sz' B O val hcap ha hsz' hc hv=>exact slice rfl
 | hs _ id off len' full loc ad' cap' hm ha hlen htop hf=>exact slice rfl
 | hc=>exact slice rfl
 | es=>exact slice rfl
 | nils=>exact slice rfl
 | ne=>exact slice rfl
 | _=>cases hb
theorem grown_ge (w:World) (need old:Nat) (el:TypeId):need≤grownCap w need old el:=by
 unfold grownCap Question.cut
 exact Nat.le_add_right _ _
theorem run_append_new {t u el ty:TypeId} {du:TypeDesc} {i:TypeInfo} {z:Value} (ht:P.underlying t=some (.slice el)) (hu:P.underlying u=some du) (hdu:du=.string∨∃ e,du=.slice e) (hi:P.info? el=some i) (hz:i.zero=some z)
  {ad:Option Addr} {sLen sCap m:Nat} {xv:Value} {olds news:List Value} (hlo:∀ w',Ext w w'→(Builtin.firstCells i.size sLen (.slice ad sLen sCap)).run P w'=.ok olds.toArray w')
  (hlen:∀ w',(Builtin.lenOf xv).run P w'=.ok m w') (hnew:∀ w',Ext w w'→(Builtin.firstCells i.size m xv).run P w'=.ok news.toArray w') (hroom:sCap < sLen+m) (hbig:(sLen+m) * (i.bytes+1)≤maxRow) :
  (Builtin.append_ #[t,u] ty #[.slice ad sLen sCap,xv]).run P w=.ok (.slice (some ⟨w.drew.heap.size,0,none⟩) (sLen+m) (grownCap w (sLen+m) sCap el))
   (w.drew.alloc (.cells (olds.toArray++(news.toArray++Builtin.zeroCells z.cells (grownCap w (sLen+m) sCap el - (sLen+m)))) el)):=by
 have hb1:(sLen+m) * i.bytes≤140737488355328:=by
  have:(sLen+m) * i.bytes≤(sLen+m) * (i.bytes+1):=Nat.mul_le_mul_left _ (Nat.le_succ _)
  simp only [maxRow] at hbig
  omega
 have hb2:sLen+m≤70368744177664:=by
  have:(sLen+m) * 1≤(sLen+m) * (i.bytes+1):=Nat.mul_le_mul_left _ (by omega)
  simp only [maxRow] at hbig
  omega
 have h48:=growslice_fits (old:=sCap) hroom hb1
 have hn:¬ (sLen+m≤sCap):=by omega
 have h63:¬ (9223372036854775807 < ((sLen:Int)+(m:Int))):=by omega
 have h48':¬ (281474976710656 < Builtin.nextslicecap (sLen+m) sCap * i.bytes):=by omega
 have hz1:=hlo w.drew (Ext.drew w)
 have hz2:=hnew w.drew (Ext.drew w)
 rcases hdu with rfl | ⟨e',rfl⟩ <;> simp [Builtin.append_,run_underlying ht,run_underlying hu,sizeOf,typeInfo,zeroValue,hi,hz,hlen,hn,h63,h48',Question.forced,hz1,hz2,newRow,grownCap]
theorem run_append_none {t u el ty:TypeId} {du:TypeDesc} {i:TypeInfo} (ht:P.underlying t=some (.slice el)) (hu:P.underlying u=some du) (hdu:du=.string∨∃ e,du=.slice e) (hi:P.info? el=some i)
  {ad:Option Addr} {sLen sCap:Nat} {xv:Value} (hlen:∀ w',(Builtin.lenOf xv).run P w'=.ok 0 w') (hnew:∀ w',Ext w w'→(Builtin.firstCells i.size 0 xv).run P w'=.ok #[] w') (hroom:sLen≤sCap) :
  (Builtin.append_ #[t,u] ty #[.slice ad sLen sCap,xv]).run P w=.ok (.slice ad sLen sCap) w:=by
 have hz2:=hnew w (Ext.refl w)
 rcases hdu with rfl | ⟨e',rfl⟩ <;> cases ad <;> simp [Builtin.append_,run_underlying ht,run_underlying hu,sizeOf,typeInfo,hi,hlen,hroom,hz2,storeCells]
theorem opA_append {t u el:TypeId} {du:TypeDesc} {i:TypeInfo} {z:Value} {x y:Operand} {x' y':Opd} (ho:o.op=.call { callee:=.builtin .append,args:=#[x,y],argTypes:=#[t,u] }) (ht:P.underlying t=some (.slice el)) (hu:P.underlying u=some du)
  (hdu:du=.string∨∃ e,du=.slice e) (hi:P.info? el=some i) (hz:i.zero=some z) (hzs:z.cells.size=i.size) (hpos:0 < i.size) (hx:TrX x x') (hy:TrX y y')
  (hr:HR w I μ (look H)) (he:ER w I μ e a.tmps) (hfree:∀ id,base≤id→id < base+N.length→μ id=none) (h:opA S e H base (.append el i.size i.bytes x' y')=some (v,N)):AOk P o a w I μ (look H) base v N:=by
 have hv:=hx.ok he
 have hw:=hy.ok he
 simp only [opA] at h
 cases hb:elems H (ev e y') with
 | none=>rw [hb] at h;cases h
 | some b =>
  rw [hb] at h
  simp only at h
  split at h
  ·rename_i hall
   have hsz:∀ xs ∈ b,xs.length=i.size:=by simpa using hall
   obtain ⟨news,r1,r2,r3⟩:=src_ok (P:=P) hr hw hb hsz
   have exec:∀ {vv:Value} {w':World},(Builtin.append_ #[t,u] o.type #[a.eval x,a.eval y]).run P w=.ok vv w'→(execOp a.eval o).run P w=.ok (.value vv) w':=fun hh=>by
    simp only [execOp,ho,resolve,invoke,builtin,Sem.run_bind,Sem.run_pure,Result.andThen_ok,List.map_toArray,List.map_cons,List.map_nil,hh]
   generalize hcv':a.eval x=cv at hv exec
   -- a new row
   have fresh:∀ {ad:Option Addr} {sLen sCap:Nat} {ol:List (List TV)} {olds:List Value},cv=.slice ad sLen sCap→RowOk w I μ i.size ol olds→ol.length=sLen→(∀ w',Ext w w'→(Builtin.firstCells i.size sLen (.slice ad sLen sCap)).run P w'=.ok olds.toArray w') →
     sCap < sLen+b.length→(sLen+b.length) * (i.bytes+1)≤maxRow→μ base=none→AOk P o a w I μ (look H) base (.hs base 0 (sLen+b.length) false) [.live i.size (ol++b)]:=by
    intro ad sLen sCap ol olds hc ro hol hlo hroom hbig hfb
    subst hc
    have hrun:=run_append_new (P:=P) (w:=w) (ty:=o.type) ht hu hdu hi hz hlo r2 r3 hroom hbig
    have hcap:=grown_ge w (sLen+b.length) sCap el
    have hrow:=ro.append r1
    have hext:Ext w (w.drew.alloc (.cells (olds.toArray++(news.toArray++Builtin.zeroCells z.cells (grownCap w (sLen+b.length) sCap el - (sLen+b.length)))) el)):=(Ext.drew w).trans (Ext.alloc _ _)
    have hzc:(Builtin.zeroCells z.cells (grownCap w (sLen+b.length) sCap el - (sLen+b.length))).size=(grownCap w (sLen+b.length) sCap el - (sLen+b.length)) * i.size:=by simp [Builtin.zeroCells,hzs]
    have hlen1:(olds++news).length=(sLen+b.length) * i.size:=by rw [hrow.1];simp [hol]
    have hlen2:olds.length+news.length=(sLen+b.length) * i.size:=by rw [← hlen1];simp
    have harr:olds.toArray++(news.toArray++Builtin.zeroCells z.cells (grownCap w (sLen+b.length) sCap el - (sLen+b.length)))=(olds++news).toArray++Builtin.zeroCells z.cells (grownCap w (sLen+b.length) sCap el - (sLen+b.length)):=by
     apply Array.ext'
     simp
    refine AOk.row (cs:=olds.toArray++(news.toArray++Builtin.zeroCells z.cells (grownCap w (sLen+b.length) sCap el - (sLen+b.length)))) (ty:=el) (fr:=(0,0)) (top:=grownCap w (sLen+b.length) sCap el * i.size) (cap:=grownCap w (sLen+b.length) sCap el)
     hr hfb (Ext.drew w) (w.drew.alloc (.cells (olds.toArray++(news.toArray++Builtin.zeroCells z.cells (grownCap w (sLen+b.length) sCap el - (sLen+b.length)))) el)) (Ext.alloc _ _) (heap_alloc_new w.drew _) (fun k _=>by simp [frz]) (by simp [hol]) ?_ (Nat.le_refl _) hcap (fun h=>by cases h) (fun μ' hm=>?_) (exec hrun)
    ·rw [harr,Array.size_append,List.size_toArray,hlen1,hzc,← Nat.add_mul]
     exact Nat.mul_le_mul_right _ (by omega)
    ·have hrow':=hrow.mono (hext.same I) (fun _ _ h=>h) hm
     refine ⟨hrow'.2.1,fun i' xs k t hi' hk=>?_⟩
     obtain ⟨vv,hv1,hv2⟩:=hrow'.2.2 i' xs k t hi' hk
     refine ⟨vv,?_,hv2⟩
     have hlt:i' * i.size+k < (olds++news).length:=(List.getElem?_eq_some_iff.1 hv1).1
     rw [harr,Array.getElem?_append_left (by simpa using hlt)]
     simpa using hv1
   have nothing:∀ {ad:Option Addr} {sLen sCap:Nat},cv=.slice ad sLen sCap→sLen≤sCap→b.length=0→VR w I μ v (.slice ad sLen sCap)→AOk P o a w I μ (look H) base v []:=by
    intro ad sLen sCap hc hle hb0 hvr
    subst hc
    have hnews:news=[]:=List.eq_nil_of_length_eq_zero (by rw [r1.1,hb0];simp)
    rw [hb0] at r2 r3
    subst hnews
    exact AOk.pure hr (exec (run_append_none (P:=P) (ty:=o.type) ht hu hdu hi r2 (by simpa using r3) hle)) hvr
   have nothingD:∀ {ad:Option Addr} {sLen sCap:Nat},cv=.slice ad sLen sCap→sLen≤sCap→b.length=0→VR w I μ v (.slice ad sLen sCap)→AOk P o a w I μ (look H) base v [.dead]:=by
    intro ad sLen sCap hc hle hb0 hvr
    subst hc
    have hnews:news=[]:=List.eq_nil_of_length_eq_zero (by rw [r1.1,hb0];simp)
    rw [hb0] at r2 r3
    subst hnews
    exact AOk.pureD hr (exec (run_append_none (P:=P) (ty:=o.type) ht hu hdu hi r2 (by simpa using r3) hle)) hvr
   generalize hct:ev e x'=ct at hv h
   cases hv with
   | nils =>
    simp only at h
    split at h
    ·rename_i hb0
     simp only [Option.some.injEq,Prod.mk.injEq] at h
     obtain ⟨rfl,rfl⟩:=h
     exact nothingD rfl (Nat.le_refl _) hb0 (.nils _)
    ·rename_i hb0
     split at h
     ·rename_i hbig
      simp only [Option.some.injEq,Prod.mk.injEq] at h
      obtain ⟨rfl,rfl⟩:=h
      have:=fresh (ol:=[]) (olds:=[]) rfl RowOk.nil rfl (fun w' _=>by simp [Builtin.firstCells]) (by omega) (by simpa using hbig) (hfree base (Nat.le_refl _) (by simp))
      simpa using this
     ·cases h
   | es _ ad =>
    simp only at h
    split at h
    ·rename_i hb0
     simp only [Option.some.injEq,Prod.mk.injEq] at h
     obtain ⟨rfl,rfl⟩:=h
     exact nothingD rfl (Nat.le_refl _) hb0 (.es _ _)
    ·rename_i hb0
     split at h
     ·rename_i hbig
      simp only [Option.some.injEq,Prod.mk.injEq] at h
      obtain ⟨rfl,rfl⟩:=h
      have:=fresh (ol:=[]) (olds:=[]) rfl RowOk.nil rfl (fun w' _=>by cases ad <;> simp [Builtin.firstCells,loadCells,loadCellsFrom]) (by omega) (by simpa using hbig) (hfree base (Nat.le_refl _) (by simp))
      simpa using this
     ·cases h
   | vs _ l ad cap sz b' off val hcap ha hsz' hc hv =>
    simp only at h
    split at h
    ·rename_i hb0
     simp only [Option.some.injEq,Prod.mk.injEq] at h
     obtain ⟨rfl,rfl⟩:=h
     exact nothing rfl hcap.1 hb0 (.vs _ _ _ _ sz b' off val hcap ha hsz' hc hv)
    ·cases h
   | hs _ id off len full loc ad cap hm ha hlen htop hf =>
    cases full with
    | false=>cases h
    | true =>
     simp only at h
     split at h
     ·rename_i hb0
      simp only [Option.some.injEq,Prod.mk.injEq] at h
      obtain ⟨rfl,rfl⟩:=h
      exact nothing rfl hlen hb0 (.hs _ _ _ _ _ loc _ _ hm ha hlen htop hf)
     ·rename_i hb0
      cases hl:H[id]? with
      | none=>rw [hl] at h;cases h
      | some bk =>
       rw [hl] at h
       cases bk with
       | dead=>cases h
       | live sz' l =>
        simp only at h
        split at h
        ·rename_i hh
         obtain ⟨hs',hfit,hbig⟩:=hh
         subst hs'
         simp only [Option.some.injEq,Prod.mk.injEq] at h
         obtain ⟨rfl,rfl⟩:=h
         obtain ⟨loc',c,ty,fr,h1,h2,h3⟩:=hr.live id _ l (look_live.2 hl)
         have hel:elems H (.hs id off len true)=some ((l.drop off).take len):=by simp only [elems,hl,if_pos hfit]
         have hvr:VR w I μ (.hs id off len true) (.slice ad len cap):=.hs _ _ _ _ _ loc _ _ hm ha hlen htop hf
         obtain ⟨olds,o1,o2,o3⟩:=src_ok (P:=P) hr hvr hel (fun xs hx=>h3.each xs (List.mem_of_mem_drop (List.mem_of_mem_take hx)))
         have hll:((l.drop off).take len).length=len:=by simp;omega
         rw [hll] at o3
         exact fresh rfl o1 hll o3 (by rw [(hf rfl).1];omega) hbig (hfree base (Nat.le_refl _) (by simp))
        ·cases h
   | _=>cases h
  ·cases h
end
end Go.Proofs.TM
