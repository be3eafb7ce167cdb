import Derived.Test.YtfbolaoobodmoaaGreatTRead
namespace Go.Proofs.TM
open Go Go.Proofs Go.RowKit
def readD (d:List Str×List (Int×Str)×Int×Bool) (k:Int):Option Str :=
 if d.2.1.length≤70368744177664 then (match d.2.1.reverse.find? (fun p=>decide (p.1=k)) with
  | some p=>some p.2
  | none=>if 0≤k then d.1[k.toNat]? else none) else none
noncomputable def read_r:Rule:=RlO (fun (a:(List Str×List (Int×Str)×Int×Bool)×Int)=>[.agg [.vs (rows a.1.1),.vs (rows a.1.2.1),.int .i64 a.1.2.2.1,.bool a.1.2.2.2],.int .i64 a.2]) (fun a=>readD a.1 a.2) (fun r=>(.str r,[]))
theorem read_app (b:List Str) (p:List (Int×Str)) (f:Int) (o:Bool) (k:Int):read_r [.agg [.vs (rows b),.vs (rows p),.int .i64 f,.bool o],.int .i64 k]=(readD (b,p,f,o) k).map (fun r=>(.str r,[])) :=
 RlO_app (enc:=fun (a:(List Str×List (Int×Str)×Int×Bool)×Int)=>[.agg [.vs (rows a.1.1),.vs (rows a.1.2.1),.int .i64 a.1.2.2.1,.bool a.1.2.2.2],.int .i64 a.2]) (g:=fun a=>readD a.1 a.2)
  (by rintro ⟨⟨a,b,c,d⟩,e⟩ ⟨⟨a',b',c',d'⟩,e'⟩ h;simpa [and_assoc] using h) ((b,p,f,o),k)
theorem ba_ext {s:ByteArray} {l:Str} (h:s.data.toList=l):s=⟨l.toArray⟩:=by
 cases s with
 | mk d=>simp only at h;subst h;simp
theorem VR.int_inv {w:World} {I:Nat→Nat→Prop} {μ:Mu} {k:IntKind} {n:Int} {v:Value} (h:VR w I μ (.int k n) v):v=.int k n:=by cases h;rfl
theorem VR.str_inv {w:World} {I:Nat→Nat→Prop} {μ:Mu} {s:Str} {v:Value} (h:VR w I μ (.str s) v):v=.string ⟨s.toArray⟩:=by
 generalize ht:TV.str s=t at h
 cases h <;> try (cases ht;done)
 rename_i b
 simp only [TV.str.injEq] at ht
 rw [ba_ext ht.symm]
def zOf (p:List (Int×Str)) (j:Nat):Nat×Int×ByteArray:=(j,(p.getD j (0,[])).1,⟨(p.getD j (0,[])).2.toArray⟩)
def hOf (x:Nat×Int×ByteArray):Int×Str:=(x.2.1,x.2.2.data.toList)
theorem back_zOf (p:List (Int×Str)) (k:Nat) (hk:k≤p.length):(back (zOf p) p.length k).map hOf=p.reverse.take k:=by
 apply List.ext_getElem?
 intro j
 unfold back
 rw [List.map_map,List.getElem?_map,List.getElem?_take]
 by_cases hj:j < k
 ·rw [if_pos hj,List.getElem?_reverse (by omega),List.getElem?_range hj]
  have hlt:p.length - 1 - j < p.length:=by omega
  simp [zOf,hOf,List.getD_eq_getElem?_getD,hlt]
 ·rw [if_neg hj,List.getElem?_eq_none (by simp;omega)];rfl
theorem read_ok:RuleOk Tryz.prog 118 read_r:=by
 refine RuleOk.of_calls ⟨_,Tryz.func118,by kernel_rfl,by kernel_rfl⟩ fun ts r N hF=>?_
 unfold read_r RlO at hF
 split at hF
 case isFalse=>cases hF
 rename_i hx
 have h1:=hx.choose_spec
 revert h1 hF
 generalize hx.choose=l
 obtain ⟨⟨bl,p,f,off⟩,key⟩:=l
 rintro hF rfl
 simp only [Option.map_eq_some_iff,Prod.mk.injEq] at hF
 obtain ⟨s,hs,rfl,rfl⟩:=hF
 refine ⟨rfl,fun w I vs hI hvs=>?_⟩
 obtain ⟨hlen,hk⟩:=hvs
 obtain ⟨v0,v1,hv⟩:∃ v0 v1,vs=#[v0,v1]:=by
  obtain ⟨l⟩:=vs
  match l,hlen with
  | [a,b],_=>exact ⟨a,b,rfl⟩
 subst hv
 have h0:=hk 0 _ _ rfl rfl
 have h1:=hk 1 _ _ rfl rfl
 cases h1
 generalize ht:TV.agg _=t at h0
 cases h0 <;> try (cases ht;done)
 rename_i l cs hn hc
 cases ht
 obtain ⟨c0,c1,c2,c3,rfl⟩:∃ c0 c1 c2 c3,cs=#[c0,c1,c2,c3]:=by
  obtain ⟨l⟩:=cs
  match l,hn with
  | [a,b,c,d],_=>exact ⟨a,b,c,d,rfl⟩
 have g0:=hc 0 _ _ rfl rfl
 have g1:=hc 1 _ _ rfl rfl
 clear hc hk hlen hn
 unfold readD at hs
 simp only at hs
 split at hs
 case isFalse=>cases hs
 rename_i hreach
 -- the pending writes
 have hI0:Pairs w.heap.size w c1 p.length (zOf p):=by
  generalize ht:TV.vs _=t at g1
  cases g1 <;> try (cases ht;done)
  rename_i l a cap sz b o val hcap ha hsz hc hv
  cases ht
  rw [rows_length] at *
  cases p with
  | nil=>exact .inl ⟨a,cap,rfl,rfl⟩
  | cons x p =>
   obtain rfl:=ha (by simp [rows])
   have hsz2:sz=2:=(hsz (Cel.enc x) (by simp [rows])).symm
   subst hsz2
   have hat:∀ j,j < (x::p).length→(rows (x::p))[j]?=some (Cel.enc ((x::p).getD j (0,[]))):=fun j hj=>by
    rw [rows_get,List.getD_eq_getElem?_getD,List.getElem?_eq_getElem hj];rfl
   have hcell:∀ j,j < (x::p).length→I b (o+j * 2)∧w.cell? ⟨b,o+j * 2,none⟩=some (.int .i64 (zOf (x::p) j).2.1)∧w.cell? ⟨b,o+j * 2+1,none⟩=some (.string (zOf (x::p) j).2.2):=fun j hj=>by
    have a0:=hc j _ 0 _ (hat j hj) rfl
    have a1:=hc j _ 1 _ (hat j hj) rfl
    have b0:=hv j _ 0 _ (hat j hj) rfl
    have b1:=hv j _ 1 _ (hat j hj) rfl
    refine ⟨a0.1,?_,?_⟩
    ·rw [show o+j * 2=o+j * 2+0 by omega,a0.2,b0.int_inv];rfl
    ·rw [a1.2,b1.str_inv];rfl
   refine .inr ⟨b,o,cap,rfl,hcap.1,hI _ _ (hcell 0 (by simp)).1,fun j hj=>(hcell j hj).2⟩
 refine (callsIn_wide (n:=6)).1 ((read_in Fence.wide 6 trivial trivial trivial rfl (by omega) c0 c1 c2 c3 key p.length (zOf p) (fun j=>rfl) hreach w ⟨s.toArray⟩ hI0 ?_ ?_).mono ?_)
 ·intro xs hxs hne
  subst hxs
  have hnone:p.reverse.find? (fun q=>decide (q.1=key))=none:=by
   rw [List.find?_eq_none]
   intro q hq
   have hb:=back_zOf p p.length (Nat.le_refl _)
   rw [List.take_of_length_le (by simp)] at hb
   rw [← hb,List.mem_map] at hq
   obtain ⟨y,hy,rfl⟩:=hq
   exact fun hh=>hne y hy (of_decide_eq_true hh)
  rw [hnone] at hs
  simp only at hs
  split at hs
  case isFalse=>cases hs
  rename_i hk0
  obtain ⟨i,rfl⟩:∃ i:Nat,key=i:=⟨key.toNat,by omega⟩
  simp only [Int.toNat_natCast] at hs
  have hil:i < bl.length:=(List.getElem?_eq_some_iff.1 hs).1
  generalize ht:TV.vs _=t at g0
  cases g0 <;> try (cases ht;done)
  rename_i l a cap sz b o val hcap ha hsz hc hv
  cases ht
  rw [rows_length] at *
  obtain rfl:=ha (fun h=>by rw [rows_eq_nil] at h;subst h;simp at hil)
  have hat:(rows bl)[i]?=some (Cel.enc s):=by rw [rows_get,hs];rfl
  have hsz1:sz=1:=(hsz (Cel.enc s) (List.mem_of_getElem? hat)).symm
  subst hsz1
  have a0:=hc i _ 0 _ hat rfl
  have b0:=hv i _ 0 _ hat rfl
  refine ⟨b,o,_,cap,i,rfl,rfl,hil,hcap.1,hI _ _ a0.1,?_⟩
  rw [show o+i=o+i * 1+0 by omega,a0.2,b0.str_inv]
 ·intro k pre x hk hpre hne hx
  have hb:=back_zOf p k hk
  rw [← hpre,List.map_append] at hb
  have hfind:p.reverse.find? (fun q=>decide (q.1=key))=some (hOf x):=by
   rw [← List.take_append_drop k p.reverse,← hb,List.find?_append,List.find?_append]
   have h1:(pre.map hOf).find? (fun q=>decide (q.1=key))=none:=by
    rw [List.find?_eq_none]
    intro q hq
    rw [List.mem_map] at hq
    obtain ⟨y,hy,rfl⟩:=hq
    exact fun hh=>hne y hy (of_decide_eq_true hh)
   rw [h1]
   simp [hOf,hx]
  rw [hfind] at hs
  simp only [Option.some.injEq] at hs
  exact ba_ext hs
 ·rintro e w' ⟨rfl,hb⟩
  refine ⟨_,rfl,hb,?_⟩
  have:=VR.str (w:=w) (I:=I) Mu.none (⟨s.toArray⟩:ByteArray)
  simpa using this
end Go.Proofs.TM
