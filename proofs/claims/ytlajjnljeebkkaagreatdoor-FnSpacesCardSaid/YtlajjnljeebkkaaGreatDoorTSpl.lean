import Derived.Test.YtlajjnljeebkkaaGreatDoorTRep
import Derived.Test.YtlajjnljeebkkaaGreatDoorTGlue
import Derived.Shelf.Strings.Split
import Derived.Shelf.Vars
import Derived.WalkKit
namespace Go.Proofs.TM
open Go Go.Proofs
def spl (c:UInt8):Str→List Str
 | []=>[[]]
 | x::r=>if x=c then []::spl c r else match spl c r with
  | []=>[[x]]
  | h::t=>(x::h)::t
theorem spl_ne (c:UInt8) (s:Str):∃ h t,spl c s=h::t:=by
 induction s with
 | nil=>exact ⟨[],[],rfl⟩
 | cons x r ih =>
  obtain ⟨h,t,e⟩:=ih
  unfold spl
  split
  ·exact ⟨_,_,rfl⟩
  ·rw [e];exact ⟨_,_,rfl⟩
theorem spl_hit (c:UInt8) (a r:Str) (h:∀ x ∈ a,x ≠ c):spl c (a++c::r)=a::spl c r:=by
 induction a with
 | nil=>simp [spl]
 | cons x a ih =>
  rw [List.cons_append,spl,if_neg (h x List.mem_cons_self),ih (fun y hy=>h y (List.mem_cons_of_mem _ hy))]
theorem spl_miss (c:UInt8) (a:Str) (h:∀ x ∈ a,x ≠ c):spl c a=[a]:=by
 induction a with
 | nil=>rfl
 | cons x a ih =>
  rw [spl,if_neg (h x List.mem_cons_self),ih (fun y hy=>h y (List.mem_cons_of_mem _ hy))]
theorem splitK_spl (c:UInt8):∀ (n:Nat) (s:List UInt8),s.length≤n→Lib.splitK [c] 0 (Lib.count s [c]) s=spl c s:=by
 intro n
 induction n with
 | zero =>
  intro s hs
  have:s=[]:=List.eq_nil_of_length_eq_zero (by omega)
  subst this
  rw [Lib.count_one];rfl
 | succ n ih =>
  intro s hs
  rw [Lib.count_one]
  by_cases hc:c ∈ s
  ·obtain ⟨a,r,rfl,ha⟩:=List.eq_append_cons_of_mem hc
   have ha':∀ x ∈ a,x ≠ c:=fun x hx e=>ha (e ▸ hx)
   have hi:Lib.index (a++c::r) [c]=(a.length:Int):=by
    refine Lib.index_first (by simp) ?_ fun j hj=>?_
    ·unfold Lib.occAt;rw [List.drop_left];simp [List.isPrefixOf]
    ·unfold Lib.occAt
     obtain ⟨y,hy⟩:∃ y,a[j]?=some y:=⟨_,List.getElem?_eq_getElem hj⟩
     have hd:(a++c::r).drop j=y::(a++c::r).drop (j+1):=by
      rw [List.drop_eq_getElem_cons (by rw [List.length_append];omega)]
      congr 1
      rw [List.getElem_append_left hj]
      exact (List.getElem?_eq_some_iff.1 hy).2
     rw [hd]
     have:=ha' y (List.mem_of_getElem? hy)
     simp [List.isPrefixOf,this.symm]
   have hcnt:(a++c::r).count c=r.count c+1:=by
    rw [List.count_append,List.count_cons_self,List.count_eq_zero_of_not_mem ha];omega
   rw [hcnt,Lib.splitK,if_neg (by rw [hi];intro e;have:=beq_iff_eq.1 e;omega),hi]
   simp only [Int.toNat_natCast,Nat.add_zero,List.length_singleton]
   rw [List.take_left,show (a++c::r).drop (a.length+1)=r by rw [← List.drop_drop,List.drop_left];rfl,spl_hit c a r ha',← Lib.count_one,ih r (by rw [List.length_append,List.length_cons] at hs;omega)]
  ·rw [List.count_eq_zero_of_not_mem hc,spl_miss c s (fun x hx e=>hc (e ▸ hx))];rfl
noncomputable def splitS (s:Str) (c:UInt8):Option (List Str):=if s.length≤4294967280 then some (spl c s) else none
noncomputable def split_r:Rule:=RlO (fun (a:Str×UInt8)=>[.str a.1,.str [a.2]]) (fun a=>splitS a.1 a.2) (fun r=>(.hs 0 0 r.length true,[.live 1 (rows r)]))
theorem splitS_app (s:Str) (c:UInt8):split_r [.str s,.str [c]]=(splitS s c).map (fun r=>(.hs 0 0 r.length true,[.live 1 (rows r)])) :=
 RlO_app (enc:=fun (a:Str×UInt8)=>[.str a.1,.str [a.2]]) (g:=fun a=>splitS a.1 a.2) (by rintro ⟨a,b⟩ ⟨c,d⟩ h;simpa using h) (s,c)
theorem strs_new {w:World} {I:Nat→Nat→Prop} (hI:Lt w I) (r:List Str) (xs:List ByteArray) (hr:r=xs.map (·.data.toList)) (ty:Nat) (w':World) (hw:w'=w.alloc (.cells (xs.map Value.string).toArray ty)) :
  ∃ (I':Nat→Nat→Prop) (μ':Mu),Ext w w'∧(∀ b k,I b k→I' b k)∧(∀ b k,I' b k→I b k∨w.heap.size≤b)∧HR w' I' μ' (look [.live 1 (rows r)]) ∧
   VR w' I' μ' (.hs 0 0 r.length true) (.slice (some ⟨w.heap.size,0,none⟩) r.length r.length)∧(∀ b k,Foot μ' (look [.live 1 (rows r)]) b k→w.heap.size≤b)∧(∀ id loc,μ' id=some loc→id < 1):=by
 have hx:Ext w w':=hw ▸ Ext.alloc w _
 have hrl:r.length=xs.length:=by rw [hr,List.length_map]
 have hb:w'.heap[w.heap.size]?=some (.cells (xs.map Value.string).toArray ty (0,0)):=by
  rw [hw];show (w.heap.push _)[w.heap.size]?=_;rw [Array.getElem?_push,if_pos rfl]
 have hl:∀ id sz l,look [Blk.live 1 (rows r)] id=.live sz l→id=0∧sz=1∧l=rows r:=fun id sz l h=>by
  rw [look_live] at h
  cases id with
  | zero=>simp at h;exact ⟨rfl,h.1.symm,h.2.symm⟩
  | succ id=>simp at h
 refine ⟨I,fun id=>if id=0 then some ⟨w.heap.size,0,1,r.length,ty,r.length⟩ else none,hx,fun _ _ h=>h,fun _ _ h=>.inl h,⟨fun id sz l h=>?_,fun id id' sz l sz' l' loc loc' h h' hne _ _ _ k _ _ _ _=>?_,fun b k hf hi=>?_,hI.same hx⟩,?_,fun b k hf=>?_,fun id loc h=>?_⟩
 ·obtain ⟨rfl,rfl,rfl⟩:=hl id sz l h
  refine ⟨_,_,_,_,rfl,hb,rfl,⟨rfl,by simp [hrl]⟩,by simp [hrl],?_,fun k _ _=>by simp [frz],fun xs hx=>?_,fun i ys k t hi hk=>?_⟩
  ·simp [rows_length]
  ·obtain ⟨s,_,rfl⟩:=List.mem_map.1 hx;rfl
  ·rw [rows_get,Option.map_eq_some_iff] at hi
   obtain ⟨s,hs,rfl⟩:=hi
   have:k=0∧t=.str s:=by
    cases k with
    | zero=>simp [Cel.enc] at hk;exact ⟨rfl,hk.symm⟩
    | succ k=>simp [Cel.enc] at hk
   obtain ⟨rfl,rfl⟩:=this
   rw [hr,List.getElem?_map,Option.map_eq_some_iff] at hs
   obtain ⟨x,hx,rfl⟩:=hs
   exact ⟨.string x,by simp [hx],.str _ _⟩
 ·have e1:=(hl _ _ _ h).1
  have e2:=(hl _ _ _ h').1
  exact hne (e1.trans e2.symm)
 ·obtain ⟨id,sz,l,loc,h1,h2,h3,_,_⟩:=hf
  obtain ⟨rfl,rfl,rfl⟩:=hl id sz l h1
  simp only [if_true,Option.some.injEq] at h2
  subst h2
  have:=hI b k hi
  simp only at h3
  omega
 ·exact .hs _ 0 0 r.length true _ _ _ rfl (.inr (by simp)) (Nat.le_refl _) (by simp) fun _=>⟨rfl,_,_,_,hb,by simp⟩
 ·obtain ⟨id,sz,l,loc,h1,h2,h3,_,_⟩:=hf
  obtain ⟨rfl,rfl,rfl⟩:=hl id sz l h1
  simp only [if_true,Option.some.injEq] at h2
  subst h2
  exact Nat.le_of_eq h3
 ·simp only at h
  split at h
  ·omega
  ·cases h
theorem VRL.two' {w:World} {I:Nat→Nat→Prop} {a b:TV} {vs:Array Value} (h:VRL w I Mu.none [a,b] vs.toList):∃ v0 v1,vs=#[v0,v1]∧VR w I Mu.none a v0∧VR w I Mu.none b v1:=by
 obtain ⟨hlen,hk⟩:=h
 obtain ⟨l⟩:=vs
 match l,hlen with
 | [x,y],_=>exact ⟨x,y,rfl,hk 0 _ _ rfl rfl,hk 1 _ _ rfl rfl⟩
theorem VR.str_inv' {w:World} {I:Nat→Nat→Prop} {μ:Mu} {s:Str} {v:Value} (h:VR w I μ (.str s) v):∃ b:ByteArray,s=b.data.toList∧v=.string b:=by
 generalize ht:(TV.str s)=t at h
 cases h <;> try (cases ht;done)
 rename_i b
 cases ht
 exact ⟨b,rfl,rfl⟩
theorem split_ok {P:Program} {ρ:Shelf.Ren} {f:Nat} (L:Lays.n146 P ρ) (hi9:(P.info? (ρ.t 9)).map (fun i=>(i.zero,i.size,i.bytes))=some (some (.string ByteArray.empty),1,16)) (hf:ρ.f 146=f) (he:Enters P f)
  (hm:∀ (w:World) (I:Nat→Nat→Prop),Lt w I→∃ m,w.cell? ⟨ρ.g 1,0,none⟩=some (.int .i64 m)):RuleOk P f split_r:=by
 refine ⟨he,fun ts r N hF w I vs hI hvs=>?_⟩
 unfold split_r RlO at hF
 split at hF
 ·rename_i hx
  have h1:=hx.choose_spec
  revert h1 hF
  generalize hx.choose=p
  obtain ⟨s,c⟩:=p
  rintro hF rfl
  simp only [splitS] at hF
  split at hF
  ·rename_i hc
   simp only [Option.map_some,Option.some.injEq,Prod.mk.injEq] at hF
   obtain ⟨rfl,rfl⟩:=hF
   obtain ⟨v0,v1,rfl,h0,h1⟩:=VRL.two' hvs
   obtain ⟨s,rfl,rfl⟩:=h0.str_inv'
   obtain ⟨sep,hsep,rfl⟩:=h1.str_inv'
   obtain ⟨m,hm⟩:=hm w I hI
   subst hf
   have hs1:sep.data.toList=[c]:=hsep.symm
   have hsz:sep.size=1:=by show sep.data.size=1;rw [← Array.length_toList,hs1];rfl
   have hsl:s.data.toList.length=s.size:=by simp
   refine (Any.strings_Split L hi9 s sep m w (by omega) hm (by omega)).mono ?_
   rintro e w' ⟨rfl,hw⟩
   have hsp:(Lib.splitB sep 0 (Lib.countB s sep) s).map (·.data.toList)=spl c s.data.toList:=by
    rw [Lib.splitB_data,hs1]
    show Lib.splitK [c] 0 (Lib.count s.data.toList sep.data.toList) _=_
    rw [hs1]
    exact splitK_spl c _ _ (Nat.le_refl _)
   have hlen:=Lib.splitB_all sep (by omega) 0 _ s rfl
   obtain ⟨I',μ',g1,g2,g3,g4,g5,g6,g7⟩:=strs_new hI (spl c s.data.toList) _ hsp.symm _ w' hw
   refine ⟨_,I',μ',rfl,g1,g2,g3,g4,?_,g6,g7⟩
   have:(spl c s.data.toList).length=Lib.countB s sep+1:=by rw [← hsp,List.length_map,hlen]
   rw [this] at g5 ⊢
   exact g5
  ·cases hF
 ·cases hF
theorem int_cell {w:World} {I:Nat→Nat→Prop} (h:Lt w I) {g:Nat} (hg:(g,IntC) ∈ gblocks):∃ m,w.cell? ⟨g,0,none⟩=some (.int .i64 m):=by
 obtain ⟨⟨cs,ty,fr,h1,m,h2⟩,_⟩:=h.g _ hg
 dsimp only at h1 h2
 subst h2
 exact ⟨m,by simp [World.cell?,h1]⟩
theorem int_block {P:Program} {w:World} {g:Nat} {t:TypeId} {zero:Array Value} (h:w.ShapedOpen P) (hg:g < P.globals.size) (h0:((begin P (fun _ _=>0) default).world.heap[g]?).bind Obj.row?=some (zero,t)) (hz:zero.size=1)
  (hb:P.buildable t=true) (hc:P.cellTypes P.depth t=some [t]) (hu:P.underlying t=some (.int .i64)):∃ cs ty fr,w.heap[g]?=some (.cells cs ty fr)∧IntC cs:=by
 obtain ⟨cs,hh,hs,_⟩:=h.1 g zero t hg h0
 obtain ⟨m,hm⟩:=cell_of_shapedOpen_int h hg h0 hz hb hc hu
 refine ⟨cs,t,_,hh,m,?_⟩
 rw [cell_of_heap hh] at hm
 obtain ⟨l⟩:=cs
 match l,hs.trans hz with
 | [x],_=>simp at hm;subst hm;rfl
end Go.Proofs.TM
