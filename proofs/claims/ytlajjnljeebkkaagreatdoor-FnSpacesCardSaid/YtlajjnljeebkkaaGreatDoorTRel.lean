import Derived.Test.YtlajjnljeebkkaaGreatDoorTDef
import Derived.Laws.World
import Derived.Laws.Cells
import Derived.Lib.ItoaNum
namespace Go.Proofs.TM
open Go
structure Loc where
 blk:Nat
 off:Nat
 sz:Nat
 top:Nat
 ty:Nat
 csz:Nat
abbrev Mu:=Nat→Option Loc
def Mu.none:Mu:=fun _=>Option.none
def frz (fr:Nat×Nat) (k:Nat):Bool:=fr.1≤k && k < fr.2
def NS (w:World) (b:Nat):Prop:=∃ c ty fr,w.heap[b]?=some (.cells c ty fr)∧fr.2≤c.size
inductive VR (w:World) (I:Nat→Nat→Prop):Mu→TV→Value→Prop
 | undef (μ v):VR w I μ .undef v
 | int (μ k n):VR w I μ (.int k n) (.int k n)
 | bool (μ b):VR w I μ (.bool b) (.bool b)
 | str (μ) (s:ByteArray):VR w I μ (.str s.data.toList) (.string s)
 | nilp (μ):VR w I μ .nilp (.pointer none)
 | ptr (μ id i j loc) (h:μ id=some loc):VR w I μ (.ptr id i j) (.pointer (some ⟨loc.blk,loc.off+i * loc.sz+j,none⟩))
 | vp (μ) (cells:List TV) (b o:Nat) (val:Nat→Value) (hc:∀ (k:Nat) (t:TV),cells[k]?=some t→I b (o+k)∧w.cell? ⟨b,o+k,none⟩=some (val k))
   (hv:∀ (k:Nat) (t:TV),cells[k]?=some t→VR w I Mu.none t (val k)):VR w I μ (.vp cells) (.pointer (some ⟨b,o,none⟩))
 | vs (μ) (l:List (List TV)) (a:Option Addr) (cap sz b o:Nat) (val:Nat→Nat→Value) (hcap:l.length≤cap∧(a=none→cap=0)) (ha:l ≠ []→a=some ⟨b,o,none⟩) (hsz:∀ xs ∈ l,xs.length=sz)
   (hc:∀ (i:Nat) (xs:List TV) (k:Nat) (t:TV),l[i]?=some xs→xs[k]?=some t→I b (o+i * sz+k)∧w.cell? ⟨b,o+i * sz+k,none⟩=some (val i k))
   (hv:∀ (i:Nat) (xs:List TV) (k:Nat) (t:TV),l[i]?=some xs→xs[k]?=some t→VR w I Mu.none t (val i k)):VR w I μ (.vs l) (.slice a l.length cap)
 | hs (μ id off len full loc a cap) (h:μ id=some loc) (ha:cap=0∨a=some ⟨loc.blk,loc.off+off * loc.sz,none⟩) (hlen:len≤cap)
   (htop:loc.off+(off+cap) * loc.sz≤loc.top) (hf:full=true→cap=len∧NS w loc.blk):VR w I μ (.hs id off len full) (.slice a len cap)
 | hc (μ id off len cap loc a) (h:μ id=some loc) (ha:cap=0∨a=some ⟨loc.blk,loc.off+off * loc.sz,none⟩) (hlen:len≤cap)
   (htop:loc.off+(off+cap) * loc.sz≤loc.top):VR w I μ (.hc id off len cap) (.slice a len cap)
 | es (μ a):VR w I μ .es (.slice a 0 0)
 | nils (μ):VR w I μ .nils (.slice none 0 0)
 | ne (μ a cap):VR w I μ .ne (.slice (some a) 0 cap)
 | fn (μ f) (a b:List TV) (x y:Array Value) (hx:a.length=x.size) (hy:b.length=y.size) (ha:∀ (k:Nat) (t:TV) (v:Value),a[k]?=some t→x[k]?=some v→VR w I μ t v)
   (hb:∀ (k:Nat) (t:TV) (v:Value),b[k]?=some t→y[k]?=some v→VR w I μ t v):VR w I μ (.fn f a b) (.func (.func f) x y)
 | nilf (μ):VR w I μ .nilf .nilFunc
 | iface (μ t u v) (h:VR w I μ u v):VR w I μ (.iface t u) (.iface t v)
 | nili (μ):VR w I μ .nili .nilIface
 | bself (μ id T v loc) (h:μ id=some loc) (hT:loc.ty=T) (h0:loc.off=0) (hc:loc.csz=2) (hv:v=.pointer none∨v=.pointer (some ⟨loc.blk,0,none⟩)):VR w I μ (.bself id T) v
 | nb (μ):VR w I μ .nb (.slice none 0 0)
 | hb (μ id len T loc cap) (h:μ id=some loc) (hT:loc.ty=T) (h0:loc.off=0) (hsz:loc.sz=1) (htop:loc.top=loc.csz) (hcap:cap=loc.csz) (hlen:len≤cap) (hpos:0 < cap):VR w I μ (.hb id len T) (.slice (some ⟨loc.blk,0,none⟩) len cap)
 | bd (μ id T loc) (h:μ id=some loc) (hT:loc.ty=T) (h0:loc.off=0) (hsz:loc.sz=1) (htop:loc.top=loc.csz):VR w I μ (.bd id T) (.pointer (some ⟨loc.blk,0,none⟩))
 | agg (μ) (l:List TV) (cs:Array Value) (hn:l.length=cs.size) (h:∀ (k:Nat) (t:TV) (v:Value),l[k]?=some t→cs[k]?=some v→VR w I μ t v):VR w I μ (.agg l) (.agg cs)
 | tup (μ) (l:List TV) (cs:Array Value) (hn:l.length=cs.size) (h:∀ (k:Nat) (t:TV) (v:Value),l[k]?=some t→cs[k]?=some v→VR w I μ t v):VR w I μ (.tup l) (.tuple cs)
def Mu.le (μ μ':Mu):Prop:=∀ id loc,μ id=some loc→μ' id=some loc
theorem Mu.le_refl (μ:Mu):μ.le μ:=fun _ _ h=>h
theorem Mu.le_trans {a b c:Mu} (h:a.le b) (k:b.le c):a.le c:=fun _ _ x=>k _ _ (h _ _ x)
theorem Mu.none_le (μ:Mu):Mu.none.le μ:=fun _ _ h=>by cases h
def Same (I:Nat→Nat→Prop) (w w':World):Prop:=(∀ b k v,I b k→w.cell? ⟨b,k,none⟩=some v→w'.cell? ⟨b,k,none⟩=some v)∧∀ b,NS w b→NS w' b
theorem VR.mono {w w':World} {I I':Nat→Nat→Prop} (hs:Same I w w') (hI:∀ b k,I b k→I' b k) {μ:Mu} {t:TV} {v:Value} (h:VR w I μ t v) :
  ∀ μ',μ.le μ'→VR w' I' μ' t v:=by
 induction h with
 | undef μ v=>intro μ' _;exact .undef _ _
 | int=>intro μ' _;exact .int _ _ _
 | bool=>intro μ' _;exact .bool _ _
 | str=>intro μ' _;exact .str _ _
 | nilp=>intro μ' _;exact .nilp _
 | ptr μ id i j loc h=>intro μ' hm;exact .ptr _ _ _ _ _ (hm _ _ h)
 | vp μ cells b o val hc hv ih=>intro μ' _;exact .vp _ _ _ _ val (fun k t hk=>⟨hI _ _ (hc k t hk).1,hs.1 _ _ _ (hc k t hk).1 (hc k t hk).2⟩) (fun k t hk=>ih k t hk _ (Mu.le_refl _))
 | vs μ l a cap sz b o val hcap ha hsz hc hv ih =>
  intro μ' _
  exact .vs _ _ _ _ sz b o val hcap ha hsz (fun i xs k t hi hk=>⟨hI _ _ (hc i xs k t hi hk).1,hs.1 _ _ _ (hc i xs k t hi hk).1 (hc i xs k t hi hk).2⟩) (fun i xs k t hi hk=>ih i xs k t hi hk _ (Mu.le_refl _))
 | hs μ id off len full loc a cap h ha hlen htop hf=>intro μ' hm;exact .hs _ _ _ _ _ loc a cap (hm _ _ h) ha hlen htop fun hh=>⟨(hf hh).1,hs.2 _ (hf hh).2⟩
 | hc μ id off len cap loc a h ha hlen htop=>intro μ' hm;exact .hc _ _ _ _ _ loc a (hm _ _ h) ha hlen htop
 | es=>intro μ' _;exact .es _ _
 | nils=>intro μ' _;exact .nils _
 | ne=>intro μ' _;exact .ne _ _ _
 | fn μ f a b x y hx hy ha hb iha ihb=>intro μ' hm;exact .fn _ _ _ _ _ _ hx hy (fun k t v h1 h2=>iha k t v h1 h2 _ hm) (fun k t v h1 h2=>ihb k t v h1 h2 _ hm)
 | nilf=>intro μ' _;exact .nilf _
 | iface μ t u v h ih=>intro μ' hm;exact .iface _ _ _ _ (ih _ hm)
 | nili=>intro μ' _;exact .nili _
 | bself μ id T v loc h hT h0 hc hv=>intro μ' hm;exact .bself _ _ _ _ loc (hm _ _ h) hT h0 hc hv
 | nb=>intro μ' _;exact .nb _
 | hb μ id len T loc cap h hT h0 hsz htop hcap hlen hpos=>intro μ' hm;exact .hb _ _ _ _ loc _ (hm _ _ h) hT h0 hsz htop hcap hlen hpos
 | bd μ id T loc h hT h0 hsz htop=>intro μ' hm;exact .bd _ _ _ loc (hm _ _ h) hT h0 hsz htop
 | agg μ l cs hn h ih=>intro μ' hm;exact .agg _ _ _ hn (fun k t v h1 h2=>ih k t v h1 h2 _ hm)
 | tup μ l cs hn h ih=>intro μ' hm;exact .tup _ _ _ hn (fun k t v h1 h2=>ih k t v h1 h2 _ hm)
abbrev Hf:=Nat→Blk
def look (H:Heap):Hf:=fun id=>H.getD id .dead
structure BlkOk (w:World) (I:Nat→Nat→Prop) (μ:Mu) (sz:Nat) (l:List (List TV)) (loc:Loc) (c:Array Value) (ty:Nat) (fr:Nat×Nat):Prop where
 hsz:loc.sz=sz
 hty:loc.ty=ty∧loc.csz=c.size
 size:loc.top≤c.size
 fits:loc.off+l.length * sz≤loc.top
 frozen:∀ k,loc.off≤k→k < loc.top→frz fr k=false
 each:∀ xs ∈ l,xs.length=sz
 cells:∀ (i:Nat) (xs:List TV) (k:Nat) (t:TV),l[i]?=some xs→xs[k]?=some t→∃ v,c[loc.off+i * sz+k]?=some v∧VR w I μ t v
def Foot (μ:Mu) (h:Hf) (b k:Nat):Prop:=∃ id sz l loc,h id=.live sz l∧μ id=some loc∧loc.blk=b∧loc.off≤k∧k < loc.top
def ErrC (c:Array Value):Prop:=∃ t v,c=#[Value.iface t v]
def IntC (c:Array Value):Prop:=∃ n,c=#[Value.int .i64 n]
def gblocks:List (Nat×(Array Value→Prop)):=[(0,fun c=>c=(Lib.pow10Tab.map fun z=>Value.int .u64 z).toArray),(2,ErrC),(3,ErrC)]
structure Lt (w:World) (I:Nat→Nat→Prop):Prop where
 lt:∀ b k,I b k→b < w.heap.size
 g:∀ p ∈ gblocks,(∃ cs ty fr,w.heap[p.1]?=some (.cells cs ty fr)∧p.2 cs)∧∀ k,I p.1 k
instance {w:World} {I:Nat→Nat→Prop}:CoeFun (Lt w I) fun _=>∀ b k,I b k→b < w.heap.size:=⟨Lt.lt⟩
theorem Lt.to {w w':World} {I I':Nat→Nat→Prop} (h:Lt w I) (hI:∀ b k,I b k→I' b k) (hb:∀ b o,(∀ k,I b k)→w.heap[b]?=some o→w'.heap[b]?=some o) (hl:∀ b k,I' b k→b < w'.heap.size):Lt w' I' :=
 ⟨hl,fun p hp=>⟨by obtain ⟨⟨cs,ty,fr,h1,h3⟩,h2⟩:=h.g p hp;exact ⟨cs,ty,fr,hb _ _ h2 h1,h3⟩,fun k=>hI _ _ ((h.g p hp).2 k)⟩⟩
structure HR (w:World) (I:Nat→Nat→Prop) (μ:Mu) (h:Hf):Prop where
 live:∀ id sz l,h id=.live sz l→∃ loc c ty fr,μ id=some loc∧w.heap[loc.blk]?=some (.cells c ty fr)∧BlkOk w I μ sz l loc c ty fr
 disj:∀ id id' sz l sz' l' loc loc',h id=.live sz l→h id'=.live sz' l'→id ≠ id'→μ id=some loc→μ id'=some loc' →
  loc.blk=loc'.blk→∀ k,loc.off≤k→k < loc.top→loc'.off≤k→k < loc'.top→False
 noI:∀ b k,Foot μ h b k→¬ I b k
 lt:Lt w I
structure Ext (w w':World):Prop where
 os:w'.os=w.os
 tape:w'.tape=w.tape
 output:w'.output=w.output
 size:w.heap.size≤w'.heap.size
 block:∀ b,b < w.heap.size→w'.heap[b]?=w.heap[b]?
theorem Ext.refl (w:World):Ext w w:=⟨rfl,rfl,rfl,Nat.le_refl _,fun _ _=>rfl⟩
theorem Ext.trans {a b c:World} (h:Ext a b) (k:Ext b c):Ext a c :=
 ⟨k.os.trans h.os,k.tape.trans h.tape,k.output.trans h.output,Nat.le_trans h.size k.size,fun i hi=>(k.block i (Nat.lt_of_lt_of_le hi h.size)).trans (h.block i hi)⟩
theorem Ext.drew (w:World):Ext w w.drew:=⟨rfl,rfl,rfl,Nat.le_refl _,fun _ _=>rfl⟩
theorem Ext.alloc (w:World) (o:Obj):Ext w (w.alloc o) :=
 ⟨rfl,rfl,rfl,by simp,fun b hb=>by show (w.heap.push o)[b]?=_;rw [Array.getElem?_push,if_neg (by omega)]⟩
theorem Ext.cell {w w':World} (h:Ext w w') {a:Addr} {v:Value} (hc:w.cell? a=some v):w'.cell? a=some v:=by
 have hb:=World.block_lt_of_cell? w a hc
 unfold World.cell? at hc ⊢
 rw [h.block _ hb]
 exact hc
theorem Ext.same {w w':World} (h:Ext w w') (I:Nat→Nat→Prop):Same I w w':=⟨fun _ _ _ _ hc=>h.cell hc,fun b ⟨c,ty,fr,h1,h2⟩=>⟨c,ty,fr,by rw [h.block _ (Array.getElem?_eq_some_iff.1 h1).1];exact h1,h2⟩⟩
theorem Ext.lt {w:World} {b:Nat} {o:Obj} (h:w.heap[b]?=some o):b < w.heap.size:=(Array.getElem?_eq_some_iff.1 h).1
theorem Ext.heap {w w':World} (h:Ext w w') {b:Nat} {o:Obj} (hb:w.heap[b]?=some o):w'.heap[b]?=some o:=by
 rw [h.block _ (Array.getElem?_eq_some_iff.1 hb).1];exact hb
structure WStep (F:Nat→Nat→Prop) (w w':World):Prop where
 os:w'.os=w.os
 tape:w'.tape=w.tape
 output:w'.output=w.output
 size:w.heap.size≤w'.heap.size
 other:∀ b,b < w.heap.size→(∀ k,¬ F b k)→w'.heap[b]?=w.heap[b]?
 row:∀ b c ty fr,w.heap[b]?=some (.cells c ty fr)→∃ c' fr',w'.heap[b]?=some (.cells c' ty fr')∧c'.size=c.size∧(∀ k,¬ F b k→c'[k]?=c[k]?)∧(fr'=fr∨((∀ k,k < c.size→F b k)∧(fr.2≤c.size→fr'.2≤c.size)))
theorem Ext.step {w w':World} (h:Ext w w') (F:Nat→Nat→Prop):WStep F w w' :=
 ⟨h.os,h.tape,h.output,h.size,fun b hb _=>h.block b hb,fun b c ty fr hb=>⟨c,fr,h.heap hb,rfl,fun _ _=>rfl,.inl rfl⟩⟩
theorem Lt.ext {w w':World} {I I':Nat→Nat→Prop} (h:Lt w I) (he:Ext w w') (hI:∀ b k,I b k→I' b k) (hl:∀ b k,I' b k→b < w'.heap.size):Lt w' I':=h.to hI (fun b o _ hb=>he.heap hb) hl
theorem Lt.same {w w':World} {I:Nat→Nat→Prop} (h:Lt w I) (he:Ext w w'):Lt w' I:=h.ext he (fun _ _ x=>x) fun b k hi=>Nat.lt_of_lt_of_le (h b k hi) he.size
theorem Lt.step {F:Nat→Nat→Prop} {w w':World} {I I':Nat→Nat→Prop} (h:Lt w I) (hs:WStep F w w') (hF:∀ b k,F b k→¬ I b k) (hI:∀ b k,I b k→I' b k) (hl:∀ b k,I' b k→b < w'.heap.size):Lt w' I' :=
 h.to hI (fun b o h2 hb=>(hs.other b (Ext.lt hb) fun k hf=>hF b k hf (h2 k)).trans hb) hl
theorem WStep.refl (F:Nat→Nat→Prop) (w:World):WStep F w w:=(Ext.refl w).step F
theorem WStep.trans {F F' G:Nat→Nat→Prop} {a b c:World} (h:WStep F a b) (k:WStep F' b c) (hF:∀ x y,F x y→G x y) (hF':∀ x y,F' x y→G x y∨a.heap.size≤x):WStep G a c:=by
 refine ⟨k.os.trans h.os,k.tape.trans h.tape,k.output.trans h.output,Nat.le_trans h.size k.size,fun x hx hn=>?_,fun x c0 ty fr hx=>?_⟩
 ·rw [k.other x (Nat.lt_of_lt_of_le hx h.size) (fun y hy=>?_),h.other x hx (fun y hy=>hn y (hF _ _ hy))]
  rcases hF' _ _ hy with h1 | h1
  ·exact hn y h1
  ·omega
 ·obtain ⟨c1,fr1,h1,h2,h3,h4⟩:=h.row x c0 ty fr hx
  obtain ⟨c2,fr2,k1,k2,k3,k4⟩:=k.row x c1 ty fr1 h1
  have hlt:x < a.heap.size:=(Array.getElem?_eq_some_iff.1 hx).1
  have hG:∀ y,F' x y→G x y:=fun y hf=>by
   rcases hF' _ _ hf with h1 | h1
   ·exact h1
   ·omega
  refine ⟨c2,fr2,k1,k2.trans h2,fun y hy=>?_,?_⟩
  ·rw [k3 y (fun hf=>hy (hG y hf)),h3 y (fun hf=>hy (hF _ _ hf))]
  ·rcases k4 with rfl | ⟨g1,g2⟩
   ·rcases h4 with rfl | ⟨g3,g4⟩
    ·exact .inl rfl
    ·exact .inr ⟨fun y hy=>hF _ _ (g3 y hy),g4⟩
   ·refine .inr ⟨fun y hy=>hG y (g1 y (by rw [h2];exact hy)),fun hh=>?_⟩
    rw [h2] at g2
    rcases h4 with rfl | ⟨_,g4⟩
    ·exact g2 hh
    ·exact g2 (g4 hh)
theorem WStep.same {F I:Nat→Nat→Prop} {w w':World} (h:WStep F w w') (hd:∀ b k,F b k→¬ I b k):Same I w w':=by
 refine ⟨?_,fun b ⟨c,ty,fr,h1,h2⟩=>let ⟨c',fr',g1,g2,_,g4⟩:=h.row b c ty fr h1;⟨c',ty,fr',g1,by rw [g2];rcases g4 with rfl | ⟨_,g5⟩;exact h2;exact g5 h2⟩⟩
 intro b k v hI hc
 unfold World.cell? at hc ⊢
 cases hb:w.heap[b]? with
 | none=>rw [hb] at hc;cases hc
 | some o =>
  rw [hb] at hc
  cases o with
  | cells c ty fr =>
   obtain ⟨c',fr',h1,_,h3,_⟩:=h.row b c ty fr hb
   simp only [h1]
   simp only at hc ⊢
   rw [h3 k (fun hf=>hd _ _ hf hI)]
   exact hc
  | _=>cases hc
theorem BlkOk.mono {w w':World} {I I':Nat→Nat→Prop} {μ μ':Mu} (hs:Same I w w') (hI:∀ b k,I b k→I' b k) (hm:μ.le μ') {sz:Nat} {l:List (List TV)} {loc:Loc} {c:Array Value} {ty:Nat} {fr:Nat×Nat}
  (h:BlkOk w I μ sz l loc c ty fr):BlkOk w' I' μ' sz l loc c ty fr :=
 ⟨h.hsz,h.hty,h.size,h.fits,h.frozen,h.each,fun i xs k t h1 h2=>let ⟨v,a,b⟩:=h.cells i xs k t h1 h2;⟨v,a,b.mono hs hI μ' hm⟩⟩
def plc (h:Hf) (base:Nat) (N:List Blk):Hf:=fun id=>if base≤id∧id < base+N.length then N.getD (id - base) .dead else h id
theorem plc_append (H:Heap) (N:List Blk):look (H++N)=plc (look H) H.length N:=by
 funext id
 unfold look plc
 simp only [List.getD_eq_getElem?_getD]
 by_cases h:id < H.length
 ·rw [List.getElem?_append_left h,if_neg (by omega)]
 ·rw [List.getElem?_append_right (by omega)]
  by_cases h2:id < H.length+N.length
  ·rw [if_pos ⟨by omega,h2⟩]
  ·rw [if_neg (by omega),List.getElem?_eq_none (by omega),List.getElem?_eq_none (by omega)]
theorem plc_nil (h:Hf) (base:Nat):plc h base []=h:=by
 funext id
 unfold plc
 rw [if_neg (by intro hh;simp at hh;omega)]
theorem HR.ext {w w':World} {I I':Nat→Nat→Prop} {μ:Mu} {h:Hf} (hr:HR w I μ h) (he:Ext w w') (hI:∀ b k,I b k→I' b k) (hn:∀ b k,I' b k→I b k∨w.heap.size≤b) (hl:∀ b k,I' b k→b < w'.heap.size) :
  HR w' I' μ h:=by
 refine ⟨fun id sz l hl=>?_,hr.disj,fun b k hf hi=>?_,hr.lt.to hI (fun b o _ hb=>he.heap hb) hl⟩
 ·obtain ⟨loc,c,ty,fr,h1,h2,h3⟩:=hr.live id sz l hl
  exact ⟨loc,c,ty,fr,h1,he.heap h2,h3.mono (he.same I) hI (Mu.le_refl _)⟩
 ·rcases hn b k hi with h1 | h1
  ·exact hr.noI b k hf h1
  ·obtain ⟨id,sz,l,loc,a1,a2,a3,_,_⟩:=hf
   obtain ⟨loc',c,ty,fr,b1,b2,_⟩:=hr.live id sz l a1
   rw [a2] at b1
   cases b1
   have:=(Array.getElem?_eq_some_iff.1 b2).1
   omega
theorem look_live {H:Heap} {id sz:Nat} {l:List (List TV)}:look H id=.live sz l ↔ H[id]?=some (.live sz l):=by
 unfold look
 rw [List.getD_eq_getElem?_getD]
 cases h:H[id]? with
 | none=>simp
 | some b=>simp
theorem addr_add (A:Addr) (hs:A.spot=none) (k:Nat):A.add k=⟨A.block,A.off+k,none⟩:=by
 unfold Addr.add
 split
 ·rename_i h;subst h;cases A;simp_all
 ·rfl
def AtOk (w:World) (I:Nat→Nat→Prop) (μ:Mu) (A:Addr) (cs:List TV):Prop :=
 A.spot=none∧∀ (k:Nat) (t:TV),cs[k]?=some t→∃ v,w.cell? ⟨A.block,A.off+k,none⟩=some v∧VR w I μ t v
theorem cell_of_heap {w:World} {b:Nat} {c:Array Value} {ty:Nat} {fr:Nat×Nat} (h:w.heap[b]?=some (.cells c ty fr)) (k:Nat):w.cell? ⟨b,k,none⟩=c[k]?:=by
 simp [World.cell?,h]
theorem cellsAt_ok {w:World} {I:Nat→Nat→Prop} {μ:Mu} {H:Heap} (hr:HR w I μ (look H)) {t:TV} {v:Value} (hv:VR w I μ t v) {cs:List TV} (h:cellsAt H t=some cs) :
  ∃ A,v=.pointer (some A)∧AtOk w I μ A cs:=by
 cases hv <;> simp only [cellsAt] at h <;> try cases h
 case vp b o val hc hv =>
  exact ⟨_,rfl,rfl,fun k t hk=>⟨_,(hc k t hk).2,(hv k t hk).mono (Ext.refl w |>.same I) (fun _ _ h=>h) _ (Mu.none_le _)⟩⟩
 case ptr id i j loc hm =>
  cases hl:H[id]? with
  | none=>rw [hl] at h;cases h
  | some b =>
   rw [hl] at h
   cases b with
   | dead=>cases h
   | live sz l =>
    simp only [Option.map_eq_some_iff] at h
    obtain ⟨xs,hx,rfl⟩:=h
    obtain ⟨loc',c,ty,fr,h1,h2,h3⟩:=hr.live id sz l (look_live.2 hl)
    rw [hm] at h1
    cases h1
    refine ⟨_,rfl,rfl,fun k t hk=>?_⟩
    rw [List.getElem?_drop] at hk
    obtain ⟨u,hu,hvr⟩:=h3.cells i xs (j+k) t hx hk
    refine ⟨u,?_,hvr⟩
    rw [cell_of_heap h2]
    rw [h3.hsz,show loc.off+i * sz+j+k=loc.off+i * sz+(j+k) by omega]
    exact hu
def ER (w:World) (I:Nat→Nat→Prop) (μ:Mu) (e:Env) (tmps:Array Value):Prop:=∀ t,VR w I μ (get e t) (tmps.getD t undef)
theorem ER.mono {w w':World} {I I':Nat→Nat→Prop} {μ μ':Mu} {e:Env} {tmps:Array Value} (h:ER w I μ e tmps) (hs:Same I w w') (hI:∀ b k,I b k→I' b k) (hm:μ.le μ'):ER w' I' μ' e tmps :=
 fun t=>(h t).mono hs hI μ' hm
theorem ER.put {w:World} {I:Nat→Nat→Prop} {μ:Mu} {e:Env} {a:Act} (h:ER w I μ e a.tmps) {d:Option Nat} (hd:∀ x,d=some x→x < a.tmps.size) {t:TV} {v:Value} (hv:VR w I μ t v) :
  ER w I μ (put e d t) (a.put d v).tmps:=by
 cases d with
 | none=>exact h
 | some x =>
  intro y
  have hx:=hd x rfl
  simp only [TM.put,get,Act.put]
  by_cases hy:y=x
  ·subst hy
   simp only [if_true]
   simpa [hx] using hv
  ·simp only [if_neg hy]
   have:=h y
   rw [Array.getD_eq_getD_getElem?] at this ⊢
   rw [Array.getElem?_setIfInBounds_ne (fun hh=>hy hh.symm)]
   exact this
theorem ER.keep {w:World} {I:Nat→Nat→Prop} {μ:Mu} {e:Env} {tmps:Array Value} (h:ER w I μ e tmps) (keep:List Nat):ER w I μ (keepEnv keep e) tmps:=by
 intro t
 have:get (keepEnv keep e) t=get e t∨get (keepEnv keep e) t=.undef:=by
  unfold keepEnv
  induction keep with
  | nil=>exact .inr rfl
  | cons k ks ih =>
   simp only [List.map_cons,get]
   by_cases hk:t=k
   ·subst hk;simp
   ·simp only [if_neg hk];exact ih
 rcases this with h1 | h1
 ·rw [h1];exact h t
 ·rw [h1];exact .undef _ _
end Go.Proofs.TM
