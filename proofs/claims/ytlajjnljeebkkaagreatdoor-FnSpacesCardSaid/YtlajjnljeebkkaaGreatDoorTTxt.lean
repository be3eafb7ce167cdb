import Derived.Test.YtlajjnljeebkkaaGreatDoorTRep
import Derived.Test.YtlajjnljeebkkaaGreatDoorTGlue
import Derived.Shelf.Strconv.Itoa4
import Derived.Shelf.Strings.OnBuilder
import Derived.Shelf.Strconv.ParseIntPublic10
import Derived.WalkKit
namespace Go.Proofs.TM
open Go Go.Proofs
theorem VRL.two {w:World} {I:Nat→Nat→Prop} {a b:TV} {vs:Array Value} (h:VRL w I Mu.none [a,b] vs.toList):∃ v0 v1,vs=#[v0,v1]∧VR w I Mu.none a v0∧VR w I Mu.none b v1:=by
 obtain ⟨hlen,hk⟩:=h
 obtain ⟨l⟩:=vs
 match l,hlen with
 | [x,y],_=>exact ⟨x,y,rfl,hk 0 _ _ rfl rfl,hk 1 _ _ rfl rfl⟩
theorem VR.int_inv {w:World} {I:Nat→Nat→Prop} {μ:Mu} {k:IntKind} {n:Int} {v:Value} (h:VR w I μ (.int k n) v):v=.int k n:=by cases h;rfl
theorem VR.str_inv {w:World} {I:Nat→Nat→Prop} {μ:Mu} {s:Str} {v:Value} (h:VR w I μ (.str s) v):∃ b:ByteArray,s=b.data.toList∧v=.string b:=by
 generalize ht:(TV.str s)=t at h
 cases h <;> try (cases ht;done)
 rename_i b
 cases ht
 exact ⟨b,rfl,rfl⟩
theorem below_grow (w:World) (k:Nat) (os:Array Obj):RowKit.Below w.heap.size w (Sort.grow (w.drewN k) os):=by
 refine ⟨rfl,rfl,rfl,?_,fun b hb=>?_⟩
 ·simp [Sort.grow]
 ·simp only [Sort.grow]
  rw [Array.getElem?_append_left (by simpa using hb)]
  simp
noncomputable def fmtS (n:Int):Option Str:=if -9223372036854775808≤n∧n≤9223372036854775807 then some (Lib.itoa n) else none
noncomputable def fmt_r:Rule:=RlO (fun (n:Int)=>[.int .i64 n,.int .i64 10]) fmtS (fun r=>(.str r,[]))
theorem fmtS_app (n:Int):fmt_r [.int .i64 n,.int .i64 10]=(fmtS n).map (fun r=>(.str r,[])) :=
 RlO_app (enc:=fun (n:Int)=>[.int .i64 n,.int .i64 10]) (g:=fmtS) (by intro a b h;simpa using h) n
theorem fmt_ok {P : Program} {ρ : Shelf.Ren} {f : Nat} (L : LaysM.n173 P ρ) (hf : ρ.f 173 = f) (he : Enters P f) (htab : ∀ (w : World) (I : Nat → Nat → Prop), Lt w I → Lib.TabIs P w "internal/strconv.uint64pow10" .u64 Lib.pow10Tab) : RuleOk P f fmt_r := by
 refine RuleOk.of_calls he fun ts r N hF=>?_
 unfold fmt_r RlO at hF
 split at hF
 ·rename_i hx
  have h1:=hx.choose_spec
  revert h1 hF
  generalize hx.choose=n
  rintro hF rfl
  simp only [fmtS] at hF
  split at hF
  ·rename_i hc
   simp only [Option.map_some,Option.some.injEq,Prod.mk.injEq] at hF
   obtain ⟨rfl,rfl⟩:=hF
   refine ⟨rfl,fun w I vs hI hvs=>?_⟩
   obtain ⟨v0,v1,rfl,h0,h1⟩:=VRL.two hvs
   rw [h0.int_inv,h1.int_inv]
   subst hf
   refine (Any.strconv_FormatInt_10 L n hc.1 hc.2 w (htab w I hI)).mono ?_
   rintro e w' ⟨rfl,k,os,rfl⟩
   refine ⟨_,rfl,below_grow w k os,?_⟩
   have:=VR.str (w:=w) (I:=I) Mu.none (⟨(Lib.itoa n).toArray⟩:ByteArray)
   simpa using this
  ·cases hF
 ·cases hF
noncomputable def joinS (l:List Str) (sep:Str):Option Str:=if l.length≤140737488355328∧(Lib.join l sep).length≤140737488355328 then some (Lib.join l sep) else none
noncomputable def join_r:Rule:=RlO (fun (a:List Str×Str)=>[.vs (rows a.1),.str a.2]) (fun a=>joinS a.1 a.2) (fun r=>(.str r,[]))
theorem joinS_app (l:List Str) (s:Str):join_r [.vs (rows l),.str s]=(joinS l s).map (fun r=>(.str r,[])) :=
 RlO_app (enc:=fun (a:List Str×Str)=>[.vs (rows a.1),.str a.2]) (g:=fun a=>joinS a.1 a.2) (by rintro ⟨a,b⟩ ⟨c,d⟩ h;simpa using h) (l,s)
theorem strs_of {w:World} {I:Nat→Nat→Prop} {l:List Str} {v:Value} (h:VR w I Mu.none (.vs (rows l)) v):∃ (a:Option Addr) (cap b o:Nat) (xs:List ByteArray),v=.slice a l.length cap∧l=xs.map (·.data.toList)∧l.length≤cap∧(l ≠ []→a=some ⟨b,o,none⟩) ∧
  ∀ (j:Nat) x,xs[j]?=some x→I b (o+j)∧w.cell? ⟨b,o+j,none⟩=some (.string x):=by
 generalize ht:(TV.vs (rows l))=t at h
 cases h <;> try (cases ht;done)
 rename_i l' a cap sz b o val hcap ha hsz hc hv
 cases ht
 have hex:∀ (i:Nat) (s:Str),l[i]?=some s→∃ x:ByteArray,s=x.data.toList∧val i 0=.string x:=fun i s hs=>by
  have:=hv i [.str s] 0 (.str s) (by rw [rows_get,hs];rfl) rfl
  exact this.str_inv
 have hsz1:l ≠ []→sz=1:=fun hne=>by
  obtain ⟨s,r,rfl⟩:=List.exists_cons_of_ne_nil hne
  have:=hsz [.str s] (by show _ ∈ (s::r).map Cel.enc;simp [Cel.enc])
  simpa using this.symm
 refine ⟨a,cap,b,o,(List.range l.length).map fun i=>match val i 0 with | .string x=>x | _=>ByteArray.empty,by rw [rows_length],?_,?_,fun hne=>ha (by intro hh;apply hne;have:=congrArg List.length hh;rw [rows_length] at this;exact List.eq_nil_of_length_eq_zero this),fun j x hx=>?_⟩
 ·apply List.ext_getElem?
  intro i
  rw [List.getElem?_map,List.getElem?_map]
  by_cases hi:i < l.length
  ·rw [List.getElem?_range hi,List.getElem?_eq_getElem hi]
   obtain ⟨x,h1,h2⟩:=hex i l[i] (List.getElem?_eq_getElem hi)
   simp only [Option.map_some,h2,h1]
  ·rw [List.getElem?_eq_none (by omega),List.getElem?_eq_none (by simp;omega)];rfl
 ·have:=hcap.1;rw [rows_length] at this;exact this
 ·rw [List.getElem?_map] at hx
  by_cases hj:j < l.length
  ·rw [List.getElem?_range hj] at hx
   simp only [Option.map_some,Option.some.injEq] at hx
   obtain ⟨y,h1,h2⟩:=hex j l[j] (List.getElem?_eq_getElem hj)
   rw [h2] at hx
   simp only at hx
   subst hx
   have h3:=hc j [.str l[j]] 0 (.str l[j]) (by rw [rows_get,List.getElem?_eq_getElem hj];rfl) rfl
   rw [hsz1 (by intro hh;rw [hh] at hj;simp at hj),Nat.mul_one,Nat.add_zero,h2] at h3
   exact h3
  ·rw [List.getElem?_eq_none (by simp;omega)] at hx;cases hx
theorem joinS_ok {P:Program} {ρ:Shelf.Ren} {f:Nat} (L:Lays.n156 P ρ) (X:Builder.Extra P ρ) (hf:ρ.f 156=f) (he:Enters P f):RuleOk P f join_r:=by
 refine RuleOk.of_calls he fun ts r N hF=>?_
 unfold join_r RlO at hF
 split at hF
 ·rename_i hx
  have h1:=hx.choose_spec
  revert h1 hF
  generalize hx.choose=p
  obtain ⟨l,s⟩:=p
  rintro hF rfl
  simp only [joinS] at hF
  split at hF
  ·rename_i hc
   simp only [Option.map_some,Option.some.injEq,Prod.mk.injEq] at hF
   obtain ⟨rfl,rfl⟩:=hF
   refine ⟨rfl,fun w I vs hI hvs=>?_⟩
   obtain ⟨v0,v1,rfl,h0,h1⟩:=VRL.two hvs
   obtain ⟨sep,rfl,rfl⟩:=h1.str_inv
   obtain ⟨a,cap,b,o,xs,rfl,rfl,hcap,ha,hcells⟩:=strs_of h0
   subst hf
   have hres:=VR.str (w:=w) (I:=I) Mu.none (⟨(Lib.join (xs.map (·.data.toList)) sep.data.toList).toArray⟩:ByteArray)
   simp only [List.length_map] at hcap hc ⊢
   by_cases hne:xs=[]
   ·subst hne
    refine (Any.strings_Join_none L X a cap sep w).mono ?_
    rintro e w' ⟨rfl,rfl⟩
    exact ⟨_,rfl,RowKit.Below.refl _ _,by simpa [Lib.join_nil] using hres⟩
   ·rw [ha (by simpa using hne)]
    obtain ⟨x,r,hxr⟩:=List.exists_cons_of_ne_nil hne
    have hb:=(hcells 0 x (by rw [hxr];rfl)).1
    refine (Any.strings_Join L X b o cap xs sep w (fun j x hx=>(hcells j x hx).2) (hI _ _ hb) hc.1 hcap hc.2).mono ?_
    rintro e w' ⟨rfl,hbl⟩
    exact ⟨_,rfl,hbl,by simpa using hres⟩
  ·cases hF
 ·cases hF
noncomputable def rdecS (s:Str):Option (Int×Bool) :=
 if s.length≤140737488355328 then some (match Lib.parseIntB 64 s with
  | .ok v=>(v,decide (Lib.itoa v=s))
  | .syntax=>(0,false)
  | .range=>(Lib.intSat 64 s,false)) else none
noncomputable def rdec_r:Rule:=RlO (fun (s:Str)=>[.str s]) rdecS (fun r=>(.tup [.int .i64 r.1,.bool r.2],[]))
theorem rdecS_app (s:Str):rdec_r [.str s]=(rdecS s).map (fun r=>(.tup [.int .i64 r.1,.bool r.2],[])) :=
 RlO_app (enc:=fun (s:Str)=>[.str s]) (g:=rdecS) (by intro a b h;simpa using h) s
theorem VRL.one {w:World} {I:Nat→Nat→Prop} {a:TV} {vs:Array Value} (h:VRL w I Mu.none [a] vs.toList):∃ v0,vs=#[v0]∧VR w I Mu.none a v0:=by
 obtain ⟨hlen,hk⟩:=h
 obtain ⟨l⟩:=vs
 match l,hlen with
 | [x],_=>exact ⟨x,rfl,hk 0 _ _ rfl rfl⟩
theorem rdec_of {P:Program} {f:Nat} (he:Enters P f) (h:∀ (s:ByteArray) (n:Int) (b:Bool) (w:World) (I:Nat→Nat→Prop),Lt w I→rdecS s.data.toList=some (n,b) →
  Calls P f #[.string s] w fun e w'=>e=.returned (.tuple #[.int .i64 n,.bool b])∧RowKit.Below w.heap.size w w'):RuleOk P f rdec_r:=by
 refine RuleOk.of_calls he fun ts r N hF=>?_
 unfold rdec_r RlO at hF
 split at hF
 ·rename_i hx
  have h1:=hx.choose_spec
  revert h1 hF
  generalize hx.choose=s
  rintro hF rfl
  rw [Option.map_eq_some_iff] at hF
  obtain ⟨⟨n,b⟩,hc,hF⟩:=hF
  cases hF
  refine ⟨rfl,fun w I vs hI hvs=>?_⟩
  obtain ⟨v0,rfl,h0⟩:=VRL.one hvs
  obtain ⟨s,rfl,rfl⟩:=h0.str_inv
  refine (h s n b w I hI hc).mono ?_
  rintro e w' ⟨rfl,hb⟩
  refine ⟨_,rfl,hb,.tup _ _ _ rfl fun k t v h1 h2=>?_⟩
  match k with
  | 0=>simp at h1 h2;subst h1;subst h2;exact .int _ _ _
  | 1=>simp at h1 h2;subst h1;subst h2;exact .bool _ _
  | k+2=>simp at h1
 ·cases hF
theorem err_cell {w:World} {I:Nat→Nat→Prop} (h:Lt w I) {g:Nat} (hg:(g,ErrC) ∈ gblocks):∃ t v,w.cell? ⟨g,0,none⟩=some (.iface t v):=by
 obtain ⟨⟨cs,ty,fr,h1,t,v,h2⟩,_⟩:=h.g _ hg
 dsimp only at h1 h2
 subst h2
 exact ⟨t,v,by simp [World.cell?,h1]⟩
end Go.Proofs.TM
