import Derived.Test.YtlajjnljeebkkaaGreatDoorTRel
import Derived.Tactics
import Derived.Laws.Concat
import Derived.Laws.BytesString
import Derived.Laws.CopyRow
namespace Go.Proofs.TM
open Go
def ofV1:Value→Option TV
 | .int k n=>some (.int k n)
 | .bool b=>some (.bool b)
 | .string s=>some (.str s.data.toList)
 | .pointer none=>some .nilp
 | .slice none 0 0=>some .nils
 | .nilFunc=>some .nilf
 | .nilIface=>some .nili
 | _=>none
theorem ofV1_ok {v:Value} {t:TV} (h:ofV1 v=some t) (w:World) (I:Nat→Nat→Prop) (μ:Mu):VR w I μ t v:=by
 unfold ofV1 at h
 split at h <;> cases h
 ·exact .int _ _ _
 ·exact .bool _ _
 ·exact .str _ _
 ·exact .nilp _
 ·exact .nils _
 ·exact .nilf _
 ·exact .nili _
theorem allSome_get {α:Type}:∀ {l:List (Option α)} {r:List α},allSome l=some r→l.length=r.length∧∀ (k:Nat) (a:α),r[k]?=some a→l[k]?=some (some a)
 | [],r,h=>by simp only [allSome,Option.some.injEq] at h;subst h;exact ⟨rfl,fun k a hk=>by simp at hk⟩
 | none::_,r,h=>by cases h
 | some x::l,r,h=>by
  simp only [allSome,Option.map_eq_some_iff] at h
  obtain ⟨r',h1,rfl⟩:=h
  obtain ⟨h2,h3⟩:=allSome_get h1
  refine ⟨by simp [h2],fun k a hk=>?_⟩
  cases k with
  | zero=>simpa using hk
  | succ k=>simpa using h3 k a (by simpa using hk)
def ofV:Value→Option TV
 | .agg cs=>(allSome (cs.toList.map ofV1)).map .agg
 | v=>ofV1 v
theorem cells_ok {cs:Array Value} {l:List TV} (h:allSome (cs.toList.map ofV1)=some l) (w:World) (I:Nat→Nat→Prop) (μ:Mu) :
  l.length=cs.size∧∀ (k:Nat) (t:TV) (v:Value),l[k]?=some t→cs[k]?=some v→VR w I μ t v:=by
 obtain ⟨h1,h2⟩:=allSome_get h
 refine ⟨by simpa using h1.symm,fun k t v hk hv=>?_⟩
 have:=h2 k t hk
 simp only [List.getElem?_map,Array.getElem?_toList,hv,Option.map_some,Option.some.injEq] at this
 exact ofV1_ok this w I μ
theorem ofV_ok {v:Value} {t:TV} (h:ofV v=some t) (w:World) (I:Nat→Nat→Prop) (μ:Mu):VR w I μ t v:=by
 unfold ofV at h
 split at h
 ·simp only [Option.map_eq_some_iff] at h
  obtain ⟨l,h1,rfl⟩:=h
  obtain ⟨h2,h3⟩:=cells_ok h1 w I μ
  exact .agg _ _ _ h2 h3
 ·exact ofV1_ok h w I μ
inductive TrX:Operand→Opd→Prop
 | tmp (t):TrX (.tmp t) (.t t)
 | const (v tv) (h:ofV v=some tv):TrX (.const v) (.c tv)
 | func (f):TrX (.func f) (.c (.fn f [] []))
theorem TrX.ok {x:Operand} {y:Opd} (h:TrX x y) {w:World} {I:Nat→Nat→Prop} {μ:Mu} {e:Env} {a:Act} (he:ER w I μ e a.tmps):VR w I μ (ev e y) (a.eval x):=by
 cases h with
 | tmp t=>exact he t
 | const v tv h=>exact ofV_ok h w I μ
 | func f=>exact .fn _ _ _ _ _ _ (by simp) (by simp) (fun k t v h=>by simp at h) (fun k t v h=>by simp at h)
def aggSize (P:Program) (t:TypeId):Option (Option Nat) :=
 match P.underlying t,P.info? t with
 | some (.struct _),some i=>some (some i.size)
 | some (.array ..),some i=>some (some i.size)
 | some _,some _=>some none
 | _,_=>none
theorem run_isAgg {P:Program} {t:TypeId} {n:Option Nat} (h:aggSize P t=some n) (w:World) :
  (isAgg t).run P w=.ok n.isSome w∧∀ m,n=some m→(sizeOf t).run P w=.ok m w:=by
 unfold aggSize at h
 split at h <;> cases h
 ·rename_i hu hi;exact ⟨by simp [isAgg,underlying,hu],fun m hm=>by cases hm;simp [sizeOf,typeInfo,hi]⟩
 ·rename_i hu hi;exact ⟨by simp [isAgg,underlying,hu],fun m hm=>by cases hm;simp [sizeOf,typeInfo,hi]⟩
 ·rename_i d i hn1 hn2 hu hi
  refine ⟨?_,fun m hm=>by cases hm⟩
  simp only [isAgg,underlying,Sem.run_bind,run_program,hu,Result.andThen_ok,Sem.run_pure,Option.isSome_none]
theorem run_loadVar {P:Program} {t:TypeId} {n:Option Nat} (ht:aggSize P t=some n) {w:World} {I:Nat→Nat→Prop} {μ:Mu} {A:Addr} {cs:List TV} (hA:AtOk w I μ A cs) {tv:TV} (hp:packCells n cs=some tv) :
  ∃ v,(loadVar t A).run P w=.ok v w∧VR w I μ tv v:=by
 obtain ⟨hi,hs⟩:=run_isAgg ht w
 obtain ⟨hsp,hc⟩:=hA
 cases n with
 | none =>
  simp only [packCells,List.head?_eq_getElem?] at hp
  obtain ⟨v,h1,h2⟩:=hc 0 tv hp
  refine ⟨v,?_,h2⟩
  have ha:(⟨A.block,A.off+0,none⟩:Addr)=A:=by cases A;simp_all
  rw [ha] at h1
  simp [loadVar,hi,h1]
 | some m =>
  simp only [packCells] at hp
  split at hp
  ·rename_i hm
   cases hp
   have hex:∀ k,k < m→∃ v,w.cell? (A.add k)=some v∧∀ t,cs[k]?=some t→VR w I μ t v:=fun k hk=>by
    obtain ⟨v,h1,h2⟩:=hc k _ (List.getElem?_eq_getElem (by omega))
    refine ⟨v,by rw [addr_add A hsp];exact h1,fun t ht=>?_⟩
    rw [List.getElem?_eq_getElem (by omega)] at ht
    cases ht
    exact h2
   have hf:∃ f:Nat→Value,∀ k,k < m→w.cell? (A.add k)=some (f k)∧∀ t,cs[k]?=some t→VR w I μ t (f k) :=
    ⟨fun k=>if hk:k < m then (hex k hk).choose else undef,fun k hk=>by simp only [dif_pos hk];exact (hex k hk).choose_spec⟩
   obtain ⟨f,hf⟩:=hf
   refine ⟨.agg ((List.range m).map f).toArray,?_,.agg _ _ _ (by simp [hm]) (fun k t v h1 h2=>?_)⟩
   ·simp [loadVar,hi,hs m rfl,run_loadCells (P:=P) w A m f (fun j hj=>(hf j hj).1)]
   ·rw [List.getElem?_take] at h1
    split at h1
    ·rename_i hk
     simp [hk] at h2
     subst h2
     exact (hf k hk).2 t h1
    ·cases h1
  ·cases hp
def AOk (P:Program) (o:Oper) (a:Act) (w:World) (I:Nat→Nat→Prop) (μ:Mu) (h:Hf) (base:Nat) (v:TV) (N:List Blk):Prop :=
 ∀ (K:Act→World→Prop) (Q:Exit→Act→World→Prop),(∀ (vv:Value) (w':World) (I':Nat→Nat→Prop) (μ':Mu),Ext w w'→(∀ b k,I b k→I' b k)→(∀ b k,I' b k→I b k∨w.heap.size≤b)→μ.le μ' →
  (∀ id,μ' id=μ id∨(base≤id∧id < base+N.length))→HR w' I' μ' (plc h base N)→VR w' I' μ' v vv →
  (∀ b k,Foot μ' (plc h base N) b k→Foot μ h b k∨w.heap.size≤b)→K (a.put o.dst vv) w')→o.wp P a w K Q
theorem AOk.pure {P:Program} {o:Oper} {a:Act} {w:World} {I:Nat→Nat→Prop} {μ:Mu} {h:Hf} {base:Nat} {v:TV} {vv:Value} (hr:HR w I μ h)
  (hrun:(execOp a.eval o).run P w=.ok (.value vv) w) (hv:VR w I μ v vv):AOk P o a w I μ h base v []:=by
 intro K Q hK
 unfold Oper.wp
 rw [hrun]
 exact hK vv w I μ (Ext.refl w) (fun _ _ h=>h) (fun _ _ h=>.inl h) (Mu.le_refl μ) (fun id=>.inl rfl) (by rw [plc_nil];exact hr) hv (by rw [plc_nil];exact fun _ _ h=>.inl h)
theorem AOk.ext {P:Program} {o:Oper} {a:Act} {w w':World} {I:Nat→Nat→Prop} {μ:Mu} {h:Hf} {base:Nat} {v:TV} {vv:Value} (hr:HR w I μ h) (hx:Ext w w')
  (hrun:(execOp a.eval o).run P w=.ok (.value vv) w') (hv:VR w' I μ v vv):AOk P o a w I μ h base v []:=by
 intro K Q hK
 unfold Oper.wp
 rw [hrun]
 exact hK vv w' I μ hx (fun _ _ h=>h) (fun _ _ h=>.inl h) (Mu.le_refl μ) (fun id=>.inl rfl) (by rw [plc_nil];exact hr.ext hx (fun _ _ h=>h) (fun _ _ h=>.inl h) (fun b k hi=>Nat.lt_of_lt_of_le (hr.lt b k hi) hx.size)) hv
  (by rw [plc_nil];exact fun _ _ h=>.inl h)
theorem AOk.pureD {P:Program} {o:Oper} {a:Act} {w:World} {I:Nat→Nat→Prop} {μ:Mu} {h:Hf} {base:Nat} {v:TV} {vv:Value} (hr:HR w I μ h)
  (hrun:(execOp a.eval o).run P w=.ok (.value vv) w) (hv:VR w I μ v vv):AOk P o a w I μ h base v [.dead]:=by
 have hs:∀ id sz l,plc h base [.dead] id=.live sz l→h id=.live sz l:=fun id sz l hl=>by
  unfold plc at hl
  split at hl
  ·rename_i hh
   simp only [List.length_cons,List.length_nil] at hh
   have:id - base=0:=by omega
   rw [this] at hl
   cases hl
  ·exact hl
 have hf:∀ b k,Foot μ (plc h base [.dead]) b k→Foot μ h b k:=fun b k ⟨id,sz,l,loc,f1,f2,f3,f4,f5⟩=>⟨id,sz,l,loc,hs _ _ _ f1,f2,f3,f4,f5⟩
 intro K Q hK
 unfold Oper.wp
 rw [hrun]
 exact hK vv w I μ (Ext.refl w) (fun _ _ h=>h) (fun _ _ h=>.inl h) (Mu.le_refl μ) (fun id=>.inl rfl)
  ⟨fun id sz l hl=>hr.live id sz l (hs _ _ _ hl),fun id id' sz l sz' l' loc loc' h1 h2=>hr.disj id id' sz l sz' l' loc loc' (hs _ _ _ h1) (hs _ _ _ h2),fun b k f=>hr.noI b k (hf b k f),hr.lt⟩ hv (fun b k f=>.inl (hf b k f))
theorem AOk.padD {P:Program} {o:Oper} {a:Act} {w:World} {I:Nat→Nat→Prop} {μ:Mu} {h:Hf} {base:Nat} {v:TV} {N:List Blk} (hA:AOk P o a w I μ h base v N):AOk P o a w I μ h base v (N++[.dead]):=by
 have hs:∀ id sz l,plc h base (N++[.dead]) id=.live sz l→plc h base N id=.live sz l:=fun id sz l hl=>by
  unfold plc at hl ⊢
  split at hl
  ·rename_i hh
   simp only [List.length_append,List.length_cons,List.length_nil] at hh
   by_cases hlt:id < base+N.length
   ·rw [if_pos ⟨hh.1,hlt⟩]
    rw [List.getD_eq_getElem?_getD,List.getElem?_append_left (by omega)] at hl
    rw [List.getD_eq_getElem?_getD];exact hl
   ·have:id - base=N.length:=by omega
    rw [List.getD_eq_getElem?_getD,List.getElem?_append_right (by omega),this] at hl
    simp at hl
  ·rename_i hh
   simp only [List.length_append,List.length_cons,List.length_nil] at hh
   rw [if_neg (by omega)];exact hl
 intro K Q hK
 refine hA K Q fun vv w' I' μ' h1 h2 h3 h4 h5 h6 h7 h8=>?_
 have hf:∀ b k,Foot μ' (plc h base (N++[.dead])) b k→Foot μ' (plc h base N) b k:=fun b k ⟨id,sz,l,loc,f1,f2,f3,f4,f5⟩=>⟨id,sz,l,loc,hs _ _ _ f1,f2,f3,f4,f5⟩
 exact hK vv w' I' μ' h1 h2 h3 h4 (fun id=>(h5 id).imp (fun h=>h) (fun h=>⟨h.1,by simp only [List.length_append,List.length_cons,List.length_nil];omega⟩))
  ⟨fun id sz l hl=>h6.live id sz l (hs _ _ _ hl),fun id id' sz l sz' l' loc loc' g1 g2=>h6.disj id id' sz l sz' l' loc loc' (hs _ _ _ g1) (hs _ _ _ g2),fun b k f=>h6.noI b k (hf b k f),h6.lt⟩ h7 (fun b k f=>h8 b k (hf b k f))
theorem AOk.newB {P:Program} {o:Oper} {a:Act} {w w1:World} {I:Nat→Nat→Prop} {μ:Mu} {h:Hf} {base:Nat} {v:TV} {vv:Value} (hr:HR w I μ h) (hfree:μ base=none)
  {c:Array Value} {ty:Nat} {fr:Nat×Nat} {sz top:Nat} {l:List (List TV)} (h1:Ext w w1)
  (w2:World) (hw2:Ext w1 w2) (hb:w2.heap[w1.heap.size]?=some (.cells c ty fr))
  (hrun:(execOp a.eval o).run P w=.ok (.value vv) w2)
  (hok:∀ μ':Mu,μ.le μ'→μ' base=some ⟨w1.heap.size,0,sz,top,ty,c.size⟩→BlkOk w2 I μ' sz l ⟨w1.heap.size,0,sz,top,ty,c.size⟩ c ty fr)
  (hv:∀ μ',μ.le μ'→μ' base=some ⟨w1.heap.size,0,sz,top,ty,c.size⟩→VR w2 I μ' v vv):AOk P o a w I μ h base v [.live sz l]:=by
 intro K Q hK
 unfold Oper.wp
 rw [hrun]
 have he:Ext w w2:=h1.trans hw2
 let loc:Loc:=⟨w1.heap.size,0,sz,top,ty,c.size⟩
 let μ':Mu:=fun id=>if id=base then some loc else μ id
 have hle:μ.le μ':=fun id l hl=>by
  show (if id=base then some loc else μ id)=some l
  by_cases hid:id=base
  ·subst hid;rw [hfree] at hl;cases hl
  ·rw [if_neg hid];exact hl
 have hbase:μ' base=some loc:=by show (if base=base then some loc else μ base)=_;simp
 have hother:∀ id,id ≠ base→μ' id=μ id:=fun id hid=>by show (if id=base then some loc else μ id)=_;rw [if_neg hid]
 have hplc:plc h base [.live sz l] base=.live sz l:=by simp [plc]
 have hplc':∀ id,id ≠ base→plc h base [.live sz l] id=h id:=fun id hid=>by unfold plc;rw [if_neg (by simp;omega)]
 have hnew:∀ id loc1 sz1 l1,h id=.live sz1 l1→μ id=some loc1→loc1.blk < w.heap.size:=fun id loc1 sz1 l1 ha hm=>by
  obtain ⟨loc2,c2,ty2,fr2,a1,a2,_⟩:=hr.live id sz1 l1 ha
  rw [hm] at a1
  cases a1
  exact (Array.getElem?_eq_some_iff.1 a2).1
 have hsz:w.heap.size≤w1.heap.size:=h1.size
 refine hK vv w2 I μ' he (fun _ _ h=>h) (fun _ _ h=>.inl h) hle (fun id=>?_) ⟨fun id sz1 l1 hl=>?_,fun id id' sz1 l1 sz2 l2 loc1 loc2 ha hb2 hne hm1 hm2 hblk k q1 q2 q3 q4=>?_,fun b k hf hi=>?_,hr.lt.same he⟩ (hv μ' hle hbase) (fun b k hf=>?_)
 ·by_cases hid:id=base
  ·right;subst hid;simp
  ·left;exact hother id hid
 ·by_cases hid:id=base
  ·subst hid
   rw [hplc] at hl
   cases hl
   exact ⟨loc,c,ty,fr,hbase,hb,hok μ' hle hbase⟩
  ·rw [hplc' id hid] at hl
   obtain ⟨loc1,c1,ty1,fr1,a1,a2,a3⟩:=hr.live id sz1 l1 hl
   exact ⟨loc1,c1,ty1,fr1,hle _ _ a1,he.heap a2,a3.mono (he.same I) (fun _ _ h=>h) hle⟩
 ·by_cases h1':id=base
  ·subst h1'
   rw [hbase] at hm1
   cases hm1
   rw [hplc' id' (Ne.symm hne)] at hb2
   rw [hother id' (Ne.symm hne)] at hm2
   have:=hnew id' loc2 sz2 l2 hb2 hm2
   have e:w1.heap.size=loc2.blk:=hblk
   omega
  ·by_cases h2':id'=base
   ·subst h2'
    rw [hbase] at hm2
    cases hm2
    rw [hplc' id h1'] at ha
    rw [hother id h1'] at hm1
    have:=hnew id loc1 sz1 l1 ha hm1
    have e:loc1.blk=w1.heap.size:=hblk
    omega
   ·rw [hplc' id h1'] at ha
    rw [hplc' id' h2'] at hb2
    rw [hother id h1'] at hm1
    rw [hother id' h2'] at hm2
    exact hr.disj id id' sz1 l1 sz2 l2 loc1 loc2 ha hb2 hne hm1 hm2 hblk k q1 q2 q3 q4
 ·obtain ⟨id,sz1,l1,loc1,a1,a2,a3,a4,a5⟩:=hf
  by_cases hid:id=base
  ·subst hid
   rw [hbase] at a2
   cases a2
   have:=hr.lt b k hi
   have e:w1.heap.size=b:=a3
   omega
  ·rw [hplc' id hid] at a1
   rw [hother id hid] at a2
   exact hr.noI b k ⟨id,sz1,l1,loc1,a1,a2,a3,a4,a5⟩ hi
 ·obtain ⟨id,sz1,l1,loc1,a1,a2,a3,a4,a5⟩:=hf
  by_cases hid:id=base
  ·subst hid
   rw [hbase] at a2
   cases a2
   right
   rw [← a3]
   exact hsz
  ·left
   rw [hplc' id hid] at a1
   rw [hother id hid] at a2
   exact ⟨id,sz1,l1,loc1,a1,a2,a3,a4,a5⟩
theorem AOk.new {P:Program} {o:Oper} {a:Act} {w w1:World} {I:Nat→Nat→Prop} {μ:Mu} {h:Hf} {base:Nat} {v:TV} {vv:Value} (hr:HR w I μ h) (hfree:μ base=none)
  {c:Array Value} {ty:Nat} {fr:Nat×Nat} {sz top:Nat} {l:List (List TV)} (h1:Ext w w1)
  (w2:World) (hw2:Ext w1 w2) (hb:w2.heap[w1.heap.size]?=some (.cells c ty fr))
  (hrun:(execOp a.eval o).run P w=.ok (.value vv) w2)
  (hok:∀ μ',μ.le μ'→BlkOk w2 I μ' sz l ⟨w1.heap.size,0,sz,top,ty,c.size⟩ c ty fr)
  (hv:∀ μ',μ.le μ'→μ' base=some ⟨w1.heap.size,0,sz,top,ty,c.size⟩→VR w2 I μ' v vv):AOk P o a w I μ h base v [.live sz l] :=
 AOk.newB hr hfree h1 w2 hw2 hb hrun (fun μ' h _=>hok μ' h) hv
end Go.Proofs.TM
