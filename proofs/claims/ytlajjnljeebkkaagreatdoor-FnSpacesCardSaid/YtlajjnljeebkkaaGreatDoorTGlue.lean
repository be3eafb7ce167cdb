import Derived.Test.YtlajjnljeebkkaaGreatDoorTFun
import Derived.WalkKit
import Derived.ProofKit
import Derived.OpenShut
import Derived.ChangeArms
import Derived.ChangeSlices
import Derived.ChangeSame
import Derived.Below
import Derived.Carry
namespace Go.Proofs.TM
open Go Go.Proofs
theorem obs {α β:Type _} (a:α) (f:α→Option β):(some a).bind f=f a:=rfl
def Old (w:World) (b k:Nat):Prop:=b < w.heap.size
theorem Lt.old {w:World} (h:∀ p ∈ gblocks,∃ cs ty fr,w.heap[p.1]?=some (.cells cs ty fr)∧p.2 cs):Lt w (Old w) :=
 ⟨fun _ _ h=>h,fun p hp=>⟨h p hp,fun k=>by obtain ⟨cs,ty,fr,h1,_⟩:=h p hp;exact (Array.getElem?_eq_some_iff.1 h1).1⟩⟩
def CRow (w:World) (ts:List TV) (cs:List Value):Prop:=ts.length=cs.length∧∀ (k:Nat) (t:TV) (v:Value),ts[k]?=some t→cs[k]?=some v→VR w (Old w) Mu.none t v
theorem CRow.one {w:World} {t:TV} {v:Value} (h:VR w (Old w) Mu.none t v):CRow w [t] [v]:=by
 refine ⟨rfl,fun k t' v' h1 h2=>?_⟩
 cases k with
 | zero=>simp at h1 h2;subst h1;subst h2;exact h
 | succ k=>simp at h1
theorem CRow.app {w:World} {ts ts':List TV} {cs cs':List Value} (h:CRow w ts cs) (h':CRow w ts' cs'):CRow w (ts++ts') (cs++cs'):=by
 refine ⟨by rw [List.length_append,List.length_append,h.1,h'.1],fun k t v h1 h2=>?_⟩
 by_cases hk:k < ts.length
 ·rw [List.getElem?_append_left hk] at h1
  rw [List.getElem?_append_left (by rw [← h.1];exact hk)] at h2
  exact h.2 k t v h1 h2
 ·rw [List.getElem?_append_right (by omega)] at h1
  rw [List.getElem?_append_right (by rw [← h.1];omega)] at h2
  rw [← h.1] at h2
  exact h'.2 _ t v h1 h2
class Gd (α:Type) where
 ok:α→Prop
instance:Gd Int:=⟨fun n=>-9223372036854775808≤n∧n≤9223372036854775807⟩
instance:Gd Bool:=⟨fun _=>True⟩
instance:Gd UInt8:=⟨fun _=>True⟩
instance:Gd Bt:=⟨fun _=>True⟩
instance {α:Type} [Gd α]:Gd (List α):=⟨fun l=>l.length≤maxLen∧∀ x ∈ l,Gd.ok x⟩
instance {α β:Type} [Gd α] [Gd β]:Gd (α×β):=⟨fun p=>Gd.ok p.1∧Gd.ok p.2⟩
def Reads (P:Program) (t:TypeId) (α:Type) [Cel α] [Gd α]:Prop :=
 ∀ {H:Type} (enc:TypeId×Value→H) (w:World) (base:Nat) (spare:Nat→Bool) (held:Bool) (fuel:Nat) (cs:List Value) (x:DataW H×List MemPlace),
  DataW.trod enc P w base spare held fuel t cs=some x→∃ a:α,CRow w (Cel.enc a) cs∧Gd.ok a
theorem reads_int {P:Program} {t:TypeId} (ht:P.underlying t=some (.int .i64)):Reads P t Int:=by
 intro H enc w base spare held fuel cs x h
 obtain ⟨n,rfl,_,hw⟩:=DataW.trod_int ht h
 have hx:-9223372036854775808≤n∧n≤9223372036854775807:=by simpa [Lit.wf,IntKind.min,IntKind.max,IntKind.signed,IntKind.bits] using hw
 exact ⟨n,CRow.one (.int _ _ _),hx⟩
theorem reads_byte {P:Program} {t:TypeId} (ht:P.underlying t=some (.int .u8)):Reads P t Bt:=by
 intro H enc w base spare held fuel cs x h
 obtain ⟨n,rfl,_,hw⟩:=DataW.trod_int ht h
 have hx:0≤n∧n≤255:=by simpa [Lit.wf,IntKind.min,IntKind.max,IntKind.signed,IntKind.bits] using hw
 refine ⟨⟨UInt8.ofNat n.toNat⟩,?_,trivial⟩
 have:((UInt8.ofNat n.toNat).toNat:Int)=n:=by
  rw [UInt8.toNat_ofNat'];omega
 show CRow w [.int .u8 ((UInt8.ofNat n.toNat).toNat:Int)] [.int .u8 n]
 rw [this]
 exact CRow.one (.int _ _ _)
theorem reads_bool {P:Program} {t:TypeId} (ht:P.underlying t=some .bool):Reads P t Bool:=by
 intro H enc w base spare held fuel cs x h
 obtain ⟨n,rfl,_⟩:=DataW.trod_bool ht h
 exact ⟨n,CRow.one (.bool _ _),trivial⟩
theorem reads_str {P:Program} {t:TypeId} (ht:P.underlying t=some .string):Reads P t Str:=by
 intro H enc w base spare held fuel cs x h
 obtain ⟨s,rfl,_,hw⟩:=DataW.trod_string ht h
 exact ⟨s.data.toList,CRow.one (.str _ _),by simpa using hw,fun _ _=>trivial⟩
theorem list_of {α:Type} (n:Nat) (Q:Nat→α→Prop) (h:∀ i,i < n→∃ x,Q i x):∃ l:List α,l.length=n∧∀ i x,l[i]?=some x→Q i x:=by
 induction n with
 | zero=>exact ⟨[],rfl,by simp⟩
 | succ n ih =>
  obtain ⟨l,hl,hq⟩:=ih fun i hi=>h i (by omega)
  obtain ⟨x,hx⟩:=h n (by omega)
  refine ⟨l++[x],by simp [hl],fun i y hy=>?_⟩
  by_cases hi:i < l.length
  ·rw [List.getElem?_append_left hi] at hy;exact hq i y hy
  ·rw [List.getElem?_append_right (by omega)] at hy
   have:i - l.length=0:=by
    have:=(List.getElem?_eq_some_iff.1 hy).1
    simp at this;omega
   rw [this] at hy;simp at hy;subst hy
   have:i=n:=by omega
   subst this;exact hx
theorem add_none (b o n:Nat):Addr.add ⟨b,o,none⟩ n=⟨b,o+n,none⟩:=by
 unfold Addr.add;split
 ·rename_i h;subst h;rfl
 ·rfl
theorem reads_slice {P:Program} {t e:TypeId} {α:Type} [Cel α] [Gd α] (ht:P.underlying t=some (.slice e)) (he:Reads P e α) (hz:P.cellsOf e=Cel.sz α) (h0:0 < Cel.sz α):Reads P t (List α):=by
 intro H enc w base spare held fuel cs x h
 rcases DataW.trod_slice ht h with ⟨rfl,_⟩ | ⟨a,len,cap,elems,rest,n,_,rfl,_,hb,hl,hm,hlen,hel,_,_⟩
 ·refine ⟨[],CRow.one (.vs _ [] none 0 0 0 0 (fun _ _=>.nilFunc) ⟨by simp,fun _=>rfl⟩ (by simp) (by simp) (by simp) (by simp)),by simp [maxLen],by simp⟩
 ·obtain ⟨l,hll,hq⟩:=list_of (α:=α) len (fun i x=>∃ cs,w.cells? base (a.add (i * P.cellsOf e)) (P.cellsOf e)=some cs∧CRow w (Cel.enc x) cs∧Gd.ok x) (fun i hi=>by
   have h1:=hel i hi
   obtain ⟨y,hy⟩:∃ y,elems[i]?=some y:=⟨_,List.getElem?_eq_getElem (by omega)⟩
   rw [hy,Option.bind_eq_some_iff] at h1
   obtain ⟨cs',hc,hd⟩:=h1
   obtain ⟨x',hx',ho⟩:=he enc w base spare held n cs' y hd
   exact ⟨x',cs',hc,hx',ho⟩)
  have hspot:l ≠ []→a=⟨a.block,a.off,none⟩:=by
   intro hne
   obtain ⟨x',hx'⟩:∃ x',l[0]?=some x':=⟨_,List.getElem?_eq_getElem (by cases l;exact absurd rfl hne;simp)⟩
   obtain ⟨cs',hc,hr,_⟩:=hq 0 x' hx'
   obtain ⟨_,hcl,hce⟩:=World.cells?_some hc
   have h3:=hce 0 (by omega)
   simp only [Nat.zero_mul,Addr.add,if_true] at h3
   obtain ⟨v,hv⟩:∃ v,cs'[0]?=some v:=⟨_,List.getElem?_eq_getElem (by omega)⟩
   rw [hv] at h3
   obtain ⟨ab,ao,asp⟩:=a
   cases asp with
   | none=>rfl
   | some s=>exfalso;simp [World.cell?] at h3;split at h3 <;> simp at h3
  have hcell:∀ (i:Nat) (x:α) (k:Nat) (t:TV),l[i]?=some x→(Cel.enc x)[k]?=some t→∃ v,w.cell? ⟨a.block,a.off+i * Cel.sz α+k,none⟩=some v∧VR w (Old w) Mu.none t v:=by
   intro i x' k t hx' hk
   obtain ⟨cs',hc,hr,_⟩:=hq i x' hx'
   obtain ⟨_,hcl,hce⟩:=World.cells?_some hc
   have hk':k < Cel.sz α:=by rw [← Cel.size x'];exact (List.getElem?_eq_some_iff.1 hk).1
   have h3:=hce k (by omega)
   obtain ⟨v,hv⟩:∃ v,cs'[k]?=some v:=⟨_,List.getElem?_eq_getElem (by omega)⟩
   refine ⟨v,?_,hr.2 k t v hk hv⟩
   have ha:=hspot (by intro h;rw [h] at hx';simp at hx')
   rw [hv,hz] at h3
   rw [← h3]
   obtain ⟨ab,ao,asp⟩:=a
   obtain rfl:asp=none:=congrArg Addr.spot ha
   rw [add_none,add_none]
  refine ⟨l,?_,by show l.length≤maxLen;omega,fun x' hx'=>?_⟩
  ·show CRow w [.vs (rows l)] [.slice (some a) len cap]
   have hlen':len=(rows l).length:=by simp [hll]
   rw [hlen']
   refine CRow.one (.vs _ (rows l) (some a) cap (Cel.sz α) a.block a.off (fun i k=>(w.cell? ⟨a.block,a.off+i * Cel.sz α+k,none⟩).getD .nilFunc) ⟨by rw [← hlen'];exact hl,fun h=>by cases h⟩ (fun h=>by rw [← hspot (fun h'=>h (by simp [h']))]) (fun xs hxs=>by
     obtain ⟨y,_,rfl⟩:=List.mem_map.1 hxs;exact Cel.size y) (fun i xs k t hi hk=>?_) (fun i xs k t hi hk=>?_))
   ·rw [rows_get,Option.map_eq_some_iff] at hi
    obtain ⟨y,hy,rfl⟩:=hi
    obtain ⟨v,hv,_⟩:=hcell i y k t hy hk
    exact ⟨World.block_lt_of_cell? w ⟨a.block,a.off+i * Cel.sz α+k,none⟩ hv,by rw [hv];rfl⟩
   ·rw [rows_get,Option.map_eq_some_iff] at hi
    obtain ⟨y,hy,rfl⟩:=hi
    obtain ⟨v,hv,hvr⟩:=hcell i y k t hy hk
    simp only [hv,Option.getD_some];exact hvr
  ·obtain ⟨i,hi⟩:=List.getElem?_of_mem hx'
   obtain ⟨_,_,_,ho⟩:=hq i x' hi
   exact ho
def FRead (P:Program) (fs:List Field) (off:Nat) (α:Type) [Cel α] [Gd α]:Prop :=
 ∀ {H:Type} (enc:TypeId×Value→H) (w:World) (base:Nat) (spare:Nat→Bool) (held:Bool) (n:Nat) (cs:List Value),
  (∀ f ∈ fs,∃ x,DataW.trod enc P w base spare held n f.type ((cs.drop f.offset).take (P.cellsOf f.type))=some x)→∃ a:α,CRow w (Cel.enc a) ((cs.drop off).take (Cel.sz α))∧Gd.ok a
theorem fread_one {P:Program} {f:Field} {off:Nat} {α:Type} [Cel α] [Gd α] (ho:f.offset=off) (hz:P.cellsOf f.type=Cel.sz α) (hr:Reads P f.type α):FRead P [f] off α:=by
 intro H enc w base spare held n cs h
 obtain ⟨x,hx⟩:=h f (by simp)
 rw [ho,hz] at hx
 exact hr enc w base spare held n _ x hx
theorem fread_cons {P:Program} {f:Field} {fs:List Field} {off:Nat} {α β:Type} [Cel α] [Gd α] [Cel β] [Gd β] (ho:f.offset=off) (hz:P.cellsOf f.type=Cel.sz α) (hr:Reads P f.type α) (hs:FRead P fs (off+Cel.sz α) β):FRead P (f::fs) off (α×β):=by
 intro H enc w base spare held n cs h
 obtain ⟨x,hx⟩:=h f (by simp)
 rw [ho,hz] at hx
 obtain ⟨a,ha,oa⟩:=hr enc w base spare held n _ x hx
 obtain ⟨b,hb,ob⟩:=hs enc w base spare held n cs (fun g hg=>h g (by simp [hg]))
 refine ⟨(a,b),?_,oa,ob⟩
 show CRow w (Cel.enc a++Cel.enc b) ((cs.drop off).take (Cel.sz α+Cel.sz β))
 rw [List.take_add,List.drop_drop]
 exact ha.app hb
theorem reads_struct {P:Program} {t:TypeId} {fs:Array Field} {α:Type} [Cel α] [Gd α] (ht:P.underlying t=some (.struct fs)) (hz:P.cellsOf t=Cel.sz α) (hr:FRead P fs.toList 0 α):Reads P t α:=by
 intro H enc w base spare held fuel cs x h
 obtain ⟨xs,n,rfl,_,hl,hxl,hf⟩:=DataW.trod_struct ht h
 obtain ⟨a,ha,oa⟩:=hr enc w base spare held n cs (fun f hf'=>by
  obtain ⟨i,hi⟩:=List.getElem?_of_mem hf'
  have hi':fs[i]?=some f:=by rw [← Array.getElem?_toList];exact hi
  have hlt:i < xs.length:=by rw [hxl];exact (Array.getElem?_eq_some_iff.1 hi').1
  exact ⟨xs[i],by rw [hf i f hi',List.getElem?_eq_getElem hlt]⟩)
 refine ⟨a,?_,oa⟩
 rw [List.drop_zero,List.take_of_length_le (by omega)] at ha
 exact ha
theorem shown_struct {P:Program} {t:TypeId} {fs:Array Field} {α:Type} [Cel α] [Gd α] (hr:Reads P t α) (ht:P.underlying t=some (.struct fs)) {H:Type} {enc:TypeId×Value→H} {w:World} {base b0:Nat} {r:Reach} {spare:Nat→Bool} {held:Bool} {v:Value} {d:DataW H} {ps:List MemPlace}
  (hval:Value.okWide P w r b0 t v) (hd:DataW.Trod enc P w base spare held t v d ps):∃ a:α,VR w (Old w) Mu.none (.agg (Cel.enc a)) v∧Gd.ok a:=by
 unfold Value.okWide at hval
 rw [ht] at hval
 obtain ⟨cs,rfl,_,_⟩:=hval
 obtain ⟨fuel,hf⟩:=hd
 obtain ⟨a,ha,oa⟩:=hr enc w base spare held fuel _ _ hf
 refine ⟨a,.agg _ _ _ (by simpa [Value.cells] using ha.1) (fun k t v h1 h2=>ha.2 k t v h1 (by simpa [Value.cells] using h2)),oa⟩
theorem shown_cell {P:Program} {t:TypeId} {α:Type} [Cel α] [Gd α] (hr:Reads P t α) {f:α→TV} (hf:∀ a,Cel.enc a=[f a]) {H:Type} {enc:TypeId×Value→H} {w:World} {base:Nat} {spare:Nat→Bool} {held:Bool} {v:Value} {d:DataW H} {ps:List MemPlace}
  (hv:v.cells=#[v]) (hd:DataW.Trod enc P w base spare held t v d ps):∃ a:α,VR w (Old w) Mu.none (f a) v∧Gd.ok a:=by
 obtain ⟨fuel,h⟩:=hd
 obtain ⟨a,ha,oa⟩:=hr enc w base spare held fuel _ _ h
 rw [hv,hf] at ha
 exact ⟨a,ha.2 0 _ _ rfl rfl,oa⟩
theorem shown_slice {P:Program} {t e:TypeId} {α:Type} [Cel α] [Gd α] (hr:Reads P t (List α)) (ht:P.underlying t=some (.slice e)) {H:Type} {enc:TypeId×Value→H} {w:World} {base b0:Nat} {r:Reach} {spare:Nat→Bool} {held:Bool} {v:Value} {d:DataW H} {ps:List MemPlace}
  (hval:Value.okWide P w r b0 t v) (hd:DataW.Trod enc P w base spare held t v d ps):∃ a:List α,VR w (Old w) Mu.none (.vs (rows a)) v∧Gd.ok a:=by
 obtain ⟨a,l,c,rfl⟩:=WideShapes.okWide_slice ht hval
 exact shown_cell hr (fun _=>rfl) rfl hd
theorem shown_int {P:Program} {t:TypeId} (hr:Reads P t Int) (ht:P.underlying t=some (.int .i64)) {H:Type} {enc:TypeId×Value→H} {w:World} {base b0:Nat} {r:Reach} {spare:Nat→Bool} {held:Bool} {v:Value} {d:DataW H} {ps:List MemPlace}
  (hval:Value.okWide P w r b0 t v) (hd:DataW.Trod enc P w base spare held t v d ps):∃ a:Int,VR w (Old w) Mu.none (.int .i64 a) v∧Gd.ok a:=by
 obtain ⟨n,rfl⟩:=WideShapes.okWide_int ht hval
 exact shown_cell hr (fun _=>rfl) rfl hd
theorem shown_bool {P:Program} {t:TypeId} (hr:Reads P t Bool) (ht:P.underlying t=some .bool) {H:Type} {enc:TypeId×Value→H} {w:World} {base b0:Nat} {r:Reach} {spare:Nat→Bool} {held:Bool} {v:Value} {d:DataW H} {ps:List MemPlace}
  (hval:Value.okWide P w r b0 t v) (hd:DataW.Trod enc P w base spare held t v d ps):∃ a:Bool,VR w (Old w) Mu.none (.bool a) v∧Gd.ok a:=by
 obtain ⟨n,rfl⟩:=WideShapes.okWide_bool ht hval
 exact shown_cell hr (fun _=>rfl) rfl hd
theorem shown_str {P:Program} {t:TypeId} (hr:Reads P t Str) (ht:P.underlying t=some .string) {H:Type} {enc:TypeId×Value→H} {w:World} {base b0:Nat} {r:Reach} {spare:Nat→Bool} {held:Bool} {v:Value} {d:DataW H} {ps:List MemPlace}
  (hval:Value.okWide P w r b0 t v) (hd:DataW.Trod enc P w base spare held t v d ps):∃ a:Str,VR w (Old w) Mu.none (.str a) v∧Gd.ok a:=by
 obtain ⟨s,rfl⟩:=WideShapes.okWide_string ht hval
 exact shown_cell hr (fun _=>rfl) rfl hd
theorem Ext.below {w w':World} (h:Ext w w'):RowKit.Below w.heap.size w w':=⟨h.os,h.tape,h.output,h.size,h.block⟩
end Go.Proofs.TM
