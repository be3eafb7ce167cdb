import Derived.Test.YtlajjnljeebkkaaGreatDoorTLib
import Derived.Below
import Derived.Shelf.Strings.Repeat
namespace Go.Proofs.TM
open Go Go.Proofs
theorem RuleOk.of_calls {P:Program} {f:Nat} {F:Rule} (he:Enters P f)
  (h:∀ (ts:List TV) (r:TV) (N:List Blk),F ts=some (r,N)→N=[]∧∀ (w:World) (I:Nat→Nat→Prop) (vs:Array Value),Lt w I→VRL w I Mu.none ts vs.toList →
   Calls P f vs w fun e w'=>∃ v,e=.returned v∧RowKit.Below w.heap.size w w'∧VR w I Mu.none r v):RuleOk P f F:=by
 refine ⟨he,fun ts r N hF w I vs hI hvs=>?_⟩
 obtain ⟨rfl,hc⟩:=h ts r N hF
 refine (hc w I vs hI hvs).mono ?_
 rintro e w' ⟨v,rfl,hb,hv⟩
 have hx:Ext w w':=⟨hb.os,hb.tape,hb.output,hb.size,hb.block⟩
 refine ⟨v,I,Mu.none,rfl,hx,fun _ _ h=>h,fun _ _ h=>.inl h,⟨fun id sz l hl=>?_,fun id id' sz l sz' l' loc loc' _ _ _ hm=>(by cases hm),fun b k hf=>?_,hI.same hx⟩,hv.mono (hx.same I) (fun _ _ h=>h) _ (Mu.le_refl _),fun b k hf=>?_,fun id loc hl=>by cases hl⟩
 ·simp [look] at hl
 ·obtain ⟨id,sz,l,loc,_,hm,_⟩:=hf;cases hm
 ·obtain ⟨id,sz,l,loc,_,hm,_⟩:=hf;cases hm
noncomputable def repS (s:Str) (n:Int):Option Str:=if 0≤n∧n≤9223372036854775807∧s.length * n.toNat≤140737488355328 then some (Lib.repeatL s n.toNat) else none
noncomputable def repS_r:Rule:=RlO (fun (a:Str×Int)=>[.str a.1,.int .i64 a.2]) (fun a=>repS a.1 a.2) (fun r=>(.str r,[]))
theorem repS_app (s:Str) (n:Int):repS_r [.str s,.int .i64 n]=(repS s n).map (fun r=>(.str r,[])) :=
 RlO_app (enc:=fun (a:Str×Int)=>[.str a.1,.int .i64 a.2]) (g:=fun a=>repS a.1 a.2) (by rintro ⟨a,b⟩ ⟨c,d⟩ h;simpa using h) (s,n)
theorem rep_ok {P:Program} {ρ:Shelf.Ren} {f:Nat} (L:Lays.n105 P ρ) (X:Builder.Extra P ρ) (hf:ρ.f 105=f) (he:Enters P f):RuleOk P f repS_r:=by
 refine RuleOk.of_calls he fun ts r N hF=>?_
 unfold repS_r RlO at hF
 split at hF
 ·rename_i hx
  have h1:=hx.choose_spec
  revert h1 hF
  generalize hx.choose=l
  obtain ⟨s,n⟩:=l
  rintro hF rfl
  simp only [repS] at hF
  split at hF
  ·rename_i hc
   simp only [Option.map_some,Option.some.injEq,Prod.mk.injEq] at hF
   obtain ⟨rfl,rfl⟩:=hF
   refine ⟨rfl,fun w I vs hI hvs=>?_⟩
   obtain ⟨hlen,hk⟩:=hvs
   obtain ⟨v0,v1,hv⟩:∃ v0 v1,vs=#[v0,v1]:=by
    obtain ⟨l⟩:=vs
    match l,hlen with
    | [a,b],_=>exact ⟨a,b,rfl⟩
   subst hv
   have h0:=hk 0 _ _ rfl rfl
   have h1:=hk 1 _ _ rfl rfl
   cases h1
   generalize ht:(TV.str s)=t at h0
   cases h0 <;> try (cases ht;done)
   rename_i b
   cases ht
   obtain ⟨c,rfl⟩:∃ c:Nat,n=c:=⟨n.toNat,by omega⟩
   subst hf
   refine (Any.strings_Repeat L X b c w (by omega) (by have:=hc.2.2;simpa using this)).mono ?_
   rintro e w' ⟨rfl,hb⟩
   refine ⟨_,rfl,hb,?_⟩
   have:=VR.str (w:=w) (I:=I) Mu.none (⟨(Lib.repeatL b.data.toList c).toArray⟩:ByteArray)
   simpa using this
  ·cases hF
 ·cases hF
end Go.Proofs.TM
