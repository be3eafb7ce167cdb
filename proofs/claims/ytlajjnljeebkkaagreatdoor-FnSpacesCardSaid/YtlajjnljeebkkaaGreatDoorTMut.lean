import Derived.Test.YtlajjnljeebkkaaGreatDoorTMem
import Derived.Lib.UnsafeStr
namespace Go.Proofs.TM
open Go
section
variable {P:Program} {S:Sys} {o:Oper} {a:Act} {w:World} {I:Nat→Nat→Prop} {μ:Mu} {e:Env} {H H':Heap} {v:TV}
def MOk (P:Program) (o:Oper) (a:Act) (w:World) (I:Nat→Nat→Prop) (μ:Mu) (H:Heap) (v:TV) (H':Heap):Prop :=
 ∀ (K:Act→World→Prop) (Q:Exit→Act→World→Prop),(∀ (vv:Value) (w':World) (I':Nat→Nat→Prop) (μ':Mu),Stp w I μ (look H) w' I' μ' (look H')→HR w' I' μ' (look H')→(∀ id,H'.length≤id→μ' id=none) →
  VR w' I' μ' v vv→K (a.put o.dst vv) w')→o.wp P a w K Q
theorem AOk.mok {N:List Blk} (hdom:∀ id,H.length≤id→μ id=none) (h:AOk P o a w I μ (look H) H.length v N):MOk P o a w I μ H v (H++N):=by
 intro K Q hK
 refine h K Q fun vv w' I' μ' hx h1 h2 h3 h4 h5 h6 h7=>?_
 rw [← plc_append] at h5 h7
 refine hK vv w' I' μ' ⟨hx.step _,h1,fun b k h=>(h2 b k h).imp .inl id,h3,h7⟩ h5 (fun id hid=>?_) h6
 simp only [List.length_append] at hid
 rcases h4 id with h | h
 ·rw [h];exact hdom id (by omega)
 ·omega
theorem look_set_self {id:Nat} {b:Blk} (h:id < H.length):look (H.set id b) id=b:=by unfold look;simp [h]
theorem look_set_ne {id id0:Nat} {b:Blk} (h:id0 ≠ id):look (H.set id b) id0=look H id0:=by
 unfold look
 rw [List.getD_eq_getElem?_getD,List.getD_eq_getElem?_getD,List.getElem?_set_ne (Ne.symm h)]
theorem other_elem {off sz i i' k p m:Nat} (hne:i' ≠ i) (hk:k < sz) (hp:off+i * sz≤p) (hm:p+m≤off+i * sz+sz):¬ (p≤off+i' * sz+k∧off+i' * sz+k < p+m):=by
 rintro ⟨h1,h2⟩
 rcases Nat.lt_or_ge i' i with h | h
 ·have:(i'+1) * sz≤i * sz:=Nat.mul_le_mul_right _ h
  rw [Nat.add_mul,Nat.one_mul] at this
  omega
 ·have:(i+1) * sz≤i' * sz:=Nat.mul_le_mul_right _ (by omega)
  rw [Nat.add_mul,Nat.one_mul] at this
  omega
theorem op_store {t:TypeId} {ti:TypeInfo} {x y:Operand} {x' y':Opd} (ho:o.op=.store t x y) (hi:P.info? t=some ti) (hx:TrX x x') (hy:TrX y y') (hr:HR w I μ (look H)) (he:ER w I μ e a.tmps) (hdom:∀ id,H.length≤id→μ id=none)
  (h:storeT H ti.size (ev e x') (ev e y')=some H'):MOk P o a w I μ H (.tup []) H':=by
 have hv:=hx.ok he
 have hw:=hy.ok he
 unfold storeT at h
 split at h
 ·rename_i id i j cs hpx hcs
  split at h
  ·rename_i hcond
   obtain ⟨hcl,hpl⟩:=hcond
   cases hl:H[id]? with
   | none=>rw [hl] at h;cases h
   | some bk =>
    rw [hl] at h
    cases bk with
    | dead=>cases h
    | live sz l =>
     simp only at h
     cases hxs:l[i]? with
     | none=>rw [hxs] at h;cases h
     | some xs =>
      rw [hxs] at h
      simp only at h
      split at h
      ·rename_i hfit
       simp only [Option.some.injEq] at h
       subst h
       obtain ⟨hs1,hs2⟩:=cellsOf_ok hcs hw
       rw [hpx] at hv
       generalize hcv:a.eval x=cv at hv
       cases hv with
       | ptr _ _ _ _ loc hm =>
        obtain ⟨loc',c,ty,fr,k1,k2,k3⟩:=hr.live id sz l (look_live.2 hl)
        rw [hm] at k1
        cases k1
        have hil:i < l.length:=(List.getElem?_eq_some_iff.1 hxs).1
        have hxl:xs.length=sz:=k3.each xs (List.mem_of_getElem? hxs)
        have hsz:=k3.hsz
        have hidl:id < H.length:=(List.getElem?_eq_some_iff.1 hl).1
        have hfits:=k3.fits
        have hsize:=k3.size
        have hel:(i+1) * sz≤l.length * sz:=Nat.mul_le_mul_right _ hil
        rw [Nat.add_mul,Nat.one_mul] at hel
        have hn:(a.eval y).cells.toList.length=ti.size:=by rw [Array.length_toList,← hs1];exact hcl
        have hseg:=seg_get c (loc.off+i * sz+j) (a.eval y).cells.toList (by omega)
        have hrun:(storeCells ⟨loc.blk,loc.off+i * loc.sz+j,none⟩ (a.eval y).cells.toList 0).run P w=.ok () (w.setRow loc.blk (c.toList.take (loc.off+i * sz+j)++(a.eval y).cells.toList++c.toList.drop (loc.off+i * sz+j+(a.eval y).cells.toList.length)).toArray):=by
         have:=run_storeCells (P:=P) loc.blk (loc.off+i * sz+j) ty fr (a.eval y).cells.toList 0 c w k2 (by omega) (fun k h1 h2=>k3.frozen k (by omega) (by omega)) (fun u hu=>?_)
         ·rw [hsz]
          simpa using this
         ·obtain ⟨k,hk,rfl⟩:=List.getElem_of_mem hu
          have hk':k < cs.length:=by rw [hcl,← hn];exact hk
          have hkc:k < (a.eval y).cells.size:=by simpa using hk
          have:=hs2 k cs[k] (a.eval y).cells[k] (by simp [hk']) (by simp [hkc])
          simp only [List.all_eq_true] at hpl
          have hp:=plain_one (hpl cs[k] (List.getElem_mem hk')) this
          simpa using hp
        have hall:=write_ok (c':=(c.toList.take (loc.off+i * sz+j)++(a.eval y).cells.toList++c.toList.drop (loc.off+i * sz+j+(a.eval y).cells.toList.length)).toArray) (μ':=μ)
         (h':=look (H.set id (.live sz (l.set i (splice xs j cs))))) (nid:=id) (l':=l.set i (splice xs j cs)) (loc':=loc) hr (look_live.2 hl) hm k2 hseg.1 (fun k hk=>?_) (Mu.le_refl _) (look_set_self hidl) hm rfl (Nat.le_refl _) (Nat.le_refl _) (fun id0 h0 sz1 l1 hl1=>?_) (fun w' hsame=>?_)
        ·obtain ⟨q1,q2⟩:=hall
         intro K Q hK
         unfold Oper.wp
         have hex:(execOp a.eval o).run P w=.ok .skip (w.setRow loc.blk (c.toList.take (loc.off+i * sz+j)++(a.eval y).cells.toList++c.toList.drop (loc.off+i * sz+j+(a.eval y).cells.toList.length)).toArray):=by
          have hne:¬ ((a.eval y).cells.size ≠ ti.size):=by simpa using hn
          simp only [execOp,ho,hcv,Instr.storeAt,Instr.sureAddr,storeVar,Sem.run_bind,sizeOf,typeInfo,run_program,hi,Result.andThen_ok,Sem.run_pure,hne,if_false,hrun]
         rw [hex]
         simp only [Oper.upon]
         exact hK undef _ I μ q2 q1 (fun id0 h0=>hdom id0 (by simpa using h0)) (.tup _ _ _ rfl (fun k t v hk=>by simp at hk))
        ·rw [hseg.2 k,if_neg (by omega)]
        ·rw [look_set_ne h0] at hl1
         exact ⟨h0,hl1,rfl⟩
        ·have hb:=k3.mono (w':=w') (I':=I) hsame (fun _ _ h=>h) (Mu.le_refl μ)
         refine ⟨hb.hsz,⟨hb.hty.1,by rw [hseg.1];exact hb.hty.2⟩,by rw [hseg.1];exact hb.size,by simpa using hb.fits,hb.frozen,fun ys hy'=>?_,fun i' ys k t hi' hk=>?_⟩
         ·rcases List.mem_or_eq_of_mem_set hy' with h' | h'
          ·exact hb.each ys h'
          ·rw [h',splice_length (by omega)];exact hxl
         ·have hkl:k < sz:=by
           have:ys.length=sz:=by
            rcases List.mem_or_eq_of_mem_set (List.mem_of_getElem? hi') with h' | h'
            ·exact hb.each ys h'
            ·rw [h',splice_length (by omega)];exact hxl
           rw [← this];exact (List.getElem?_eq_some_iff.1 hk).1
          by_cases hii:i=i'
          ·subst hii
           rw [List.getElem?_set_self hil] at hi'
           simp only [Option.some.injEq] at hi'
           subst hi'
           rw [splice_get (by omega)] at hk
           rw [hseg.2]
           by_cases hkj:j≤k∧k < j+cs.length
           ·rw [if_pos hkj] at hk
            rw [if_pos ⟨by omega,by omega⟩,show loc.off+i * sz+k - (loc.off+i * sz+j)=k - j by omega]
            have hlt:k - j < (a.eval y).cells.size:=by rw [← hs1];omega
            refine ⟨(a.eval y).cells[k - j],by simp [hlt],?_⟩
            exact (hs2 (k - j) t _ hk (by simp [hlt])).mono hsame (fun _ _ h=>h) _ (Mu.le_refl _)
           ·rw [if_neg hkj] at hk
            rw [if_neg (by omega)]
            exact hb.cells i xs k t hxs hk
          ·rw [List.getElem?_set_ne hii] at hi'
           rw [hseg.2,if_neg (other_elem (Ne.symm hii) hkl (by omega) (by omega))]
           exact hb.cells i' ys k t hi' hk
      ·cases h
  ·cases h
 ·cases h
theorem HR.sub {h h':Hf} (hr:HR w I μ h) (hs:∀ id sz l,h' id=.live sz l→h id=.live sz l):HR w I μ h'∧∀ b k,Foot μ h' b k→Foot μ h b k:=by
 have hf:∀ b k,Foot μ h' b k→Foot μ h b k:=fun b k ⟨id,sz,l,loc,f1,f2,f3,f4,f5⟩=>⟨id,sz,l,loc,hs _ _ _ f1,f2,f3,f4,f5⟩
 exact ⟨⟨fun id sz l hl=>hr.live id sz l (hs _ _ _ hl),fun id id' sz l sz' l' loc loc' h1 h2=>hr.disj id id' sz l sz' l' loc loc' (hs _ _ _ h1) (hs _ _ _ h2),fun b k f=>hr.noI b k (hf b k f),hr.lt⟩,hf⟩
theorem append_fresh {base:Nat} {t u el:TypeId} {du:TypeDesc} {i:TypeInfo} {z:Value} (ht:P.underlying t=some (.slice el)) (hu:P.underlying u=some du) (hdu:du=.string∨∃ e,du=.slice e) (hi:P.info? el=some i) (hz:i.zero=some z)
  (hzs:z.cells.size=i.size) (hr:HR w I μ (look H)) {xv:Value} {b:List (List TV)} {news:List Value} (r1:RowOk w I μ i.size b news) (r2:∀ w',(Builtin.lenOf xv).run P w'=.ok b.length w')
  (r3:∀ w',Ext w w'→(Builtin.firstCells i.size b.length xv).run P w'=.ok news.toArray w') {ad:Option Addr} {sLen sCap:Nat} {ol:List (List TV)} {olds:List Value} (ro:RowOk w I μ i.size ol olds) (hol:ol.length=sLen)
  (hlo:∀ w',Ext w w'→(Builtin.firstCells i.size sLen (.slice ad sLen sCap)).run P w'=.ok olds.toArray w') (hroom:sCap < sLen+b.length) (hbig:(sLen+b.length) * (i.bytes+1)≤maxRow) (hfb:μ base=none)
  (exec:∀ {vv:Value} {w':World},(Builtin.append_ #[t,u] o.type #[.slice ad sLen sCap,xv]).run P w=.ok vv w'→(execOp a.eval o).run P w=.ok (.value vv) w') {rv:TV}
  (hv:∀ w' blk μ' c,sLen+b.length≤c→μ' base=some ⟨blk,0,i.size,c * i.size,el,c * i.size⟩→VR w' I μ' rv (.slice (some ⟨blk,0,none⟩) (sLen+b.length) c)) :
  AOk P o a w I μ (look H) base rv [.live i.size (ol++b)]:=by
 have hrun:=run_append_new (P:=P) (w:=w) (ty:=o.type) ht hu hdu hi hz hlo r2 r3 hroom hbig
 have hcap:=grown_ge w (sLen+b.length) sCap el
 have hrow:=ro.append r1
 have hext:Ext w (w.drew.alloc (.cells (olds.toArray++(news.toArray++Builtin.zeroCells z.cells (grownCap w (sLen+b.length) sCap el - (sLen+b.length)))) el)):=(Ext.drew w).trans (Ext.alloc _ _)
 have hzc:(Builtin.zeroCells z.cells (grownCap w (sLen+b.length) sCap el - (sLen+b.length))).size=(grownCap w (sLen+b.length) sCap el - (sLen+b.length)) * i.size:=by simp [Builtin.zeroCells,hzs]
 have hlen1:(olds++news).length=(sLen+b.length) * i.size:=by rw [hrow.1];simp [hol]
 have harr:olds.toArray++(news.toArray++Builtin.zeroCells z.cells (grownCap w (sLen+b.length) sCap el - (sLen+b.length)))=(olds++news).toArray++Builtin.zeroCells z.cells (grownCap w (sLen+b.length) sCap el - (sLen+b.length)):=by
  apply Array.ext'
  simp
 have hcsz:(olds.toArray++(news.toArray++Builtin.zeroCells z.cells (grownCap w (sLen+b.length) sCap el - (sLen+b.length)))).size=grownCap w (sLen+b.length) sCap el * i.size:=by
  rw [harr,Array.size_append,List.size_toArray,hlen1,hzc,← Nat.add_mul]
  congr 1
  omega
 refine AOk.rowG (cs:=olds.toArray++(news.toArray++Builtin.zeroCells z.cells (grownCap w (sLen+b.length) sCap el - (sLen+b.length)))) (ty:=el) (fr:=(0,0)) (top:=grownCap w (sLen+b.length) sCap el * i.size) (cap:=grownCap w (sLen+b.length) sCap el)
  hr hfb (Ext.drew w) (w.drew.alloc (.cells (olds.toArray++(news.toArray++Builtin.zeroCells z.cells (grownCap w (sLen+b.length) sCap el - (sLen+b.length)))) el)) (Ext.alloc _ _) (heap_alloc_new w.drew _) (fun k _=>by simp [frz]) (by simp [hol]) ?_ (Nat.le_refl _) hcap (fun μ' hm=>?_) (exec hrun) (fun μ' hb'=>hv _ _ _ _ hcap (by rw [hcsz] at hb';exact hb'))
 ·rw [hcsz];exact Nat.le_refl _
 ·have hrow':=hrow.mono (hext.same I) (fun _ _ h=>h) hm
  refine ⟨hrow'.2.1,fun i' xs k t hi' hk=>?_⟩
  obtain ⟨vv,hv1,hv2⟩:=hrow'.2.2 i' xs k t hi' hk
  refine ⟨vv,?_,hv2⟩
  have hlt:i' * i.size+k < (olds++news).length:=(List.getElem?_eq_some_iff.1 hv1).1
  rw [harr,Array.getElem?_append_left (by simpa using hlt)]
  simpa using hv1
theorem run_append_in {t u el ty:TypeId} {du:TypeDesc} {i:TypeInfo} (ht:P.underlying t=some (.slice el)) (hu:P.underlying u=some du) (hdu:du=.string∨∃ e,du=.slice e) (hi:P.info? el=some i)
  {A:Addr} {sLen sCap m:Nat} {xv:Value} {news:List Value} (hlen:∀ w',(Builtin.lenOf xv).run P w'=.ok m w') (hnew:(Builtin.firstCells i.size m xv).run P w=.ok news.toArray w) (hroom:sLen+m≤sCap)
  {w1:World} (hst:(storeCells (A.add (sLen * i.size)) news 0).run P w=.ok () w1) :
  (Builtin.append_ #[t,u] ty #[.slice (some A) sLen sCap,xv]).run P w=.ok (.slice (some A) (sLen+m) sCap) w1:=by
 rcases hdu with rfl | ⟨e',rfl⟩ <;> simp [Builtin.append_,run_underlying ht,run_underlying hu,sizeOf,typeInfo,hi,hlen,hroom,hnew,hst]
theorem look_app_old {id0:Nat} {N:List Blk} (h:id0 < H.length):look (H++N) id0=look H id0:=by
 unfold look
 rw [List.getD_eq_getElem?_getD,List.getD_eq_getElem?_getD,List.getElem?_append_left h]
theorem look_app_new {b:Blk}:look (H++[b]) H.length=b:=by unfold look;simp
theorem look_big {id0:Nat} (h:H.length≤id0):look H id0=.dead:=by
 unfold look
 rw [List.getD_eq_getElem?_getD,List.getElem?_eq_none h];rfl
theorem op_appendG {t u el:TypeId} {du:TypeDesc} {i:TypeInfo} {z:Value} {y:Operand} (ht:P.underlying t=some (.slice el)) (hu:P.underlying u=some du)
  (hdu:du=.string∨∃ e,du=.slice e) (hi:P.info? el=some i) (hz:i.zero=some z) (hzs:z.cells.size=i.size)
  (hr:HR w I μ (look H)) (hdom:∀ id,H.length≤id→μ id=none) {ad:Option Addr} {id off len cap:Nat} {loc:Loc} {l b:List (List TV)} (hm:μ id=some loc) (ha:cap=0∨ad=some ⟨loc.blk,loc.off+off * loc.sz,none⟩) (hlen:len≤cap)
  (htop:loc.off+(off+cap) * loc.sz≤loc.top) (hl:H[id]?=some (.live i.size l)) (hfit:off+len=l.length) (hbig:(len+b.length) * (i.bytes+1)≤maxRow) (hall:∀ xs ∈ b,xs.length=i.size∧∀ t ∈ xs,plain t=true)
  {bt:TV} (hb:elems H bt=some b) (hw:VR w I μ bt (a.eval y))
  (exec:∀ {vv:Value} {w':World},(Builtin.append_ #[t,u] o.type #[.slice ad len cap,a.eval y]).run P w=.ok vv w'→(execOp a.eval o).run P w=.ok (.value vv) w') {rv:TV}
  (hin:∀ w' μ',μ' H.length=some ⟨loc.blk,loc.off+off * i.size,i.size,loc.off+(off+cap) * i.size,loc.ty,loc.csz⟩→len+b.length≤cap→VR w' I μ' rv (.slice ad (len+b.length) cap))
  (hnew:∀ w' blk I' μ' c,cap < len+b.length→len+b.length≤c→μ' H.length=some ⟨blk,0,i.size,c * i.size,el,c * i.size⟩→VR w' I' μ' rv (.slice (some ⟨blk,0,none⟩) (len+b.length) c)) :
  MOk P o a w I μ H rv (H.set id .dead++[.live i.size (l.drop off++b)]):=by
 obtain ⟨news,r1,r2,r3⟩:=src_ok (P:=P) hr hw hb (sz:=i.size) (fun xs hx=>(hall xs hx).1)
 obtain ⟨loc',c,ty,fr,k1,k2,k3⟩:=hr.live id _ l (look_live.2 hl)
 rw [hm] at k1
 cases k1
 have hidl:id < H.length:=(List.getElem?_eq_some_iff.1 hl).1
 have hsz:=k3.hsz
 have hdl:(l.drop off).length=len:=by simp;omega
 have hset:(H.set id Blk.dead).length=H.length:=by simp
 by_cases hroom:len+b.length≤cap
 ·-- in place
  let nl:Loc:=⟨loc.blk,loc.off+off * i.size,i.size,loc.off+(off+cap) * i.size,loc.ty,loc.csz⟩
  let μ':Mu:=fun id0=>if id0=H.length then some nl else μ id0
  have hle:μ.le μ':=fun id0 l0 hl0=>by
   show (if id0=H.length then some nl else μ id0)=some l0
   by_cases h0:id0=H.length
   ·subst h0;rw [hdom _ (Nat.le_refl _)] at hl0;cases hl0
   ·rw [if_neg h0];exact hl0
  have hmn:μ' H.length=some nl:=by show (if H.length=H.length then some nl else μ H.length)=_;rw [if_pos rfl]
  have hmo:∀ id0,id0 ≠ H.length→μ' id0=μ id0:=fun id0 h0=>by show (if id0=H.length then some nl else μ id0)=_;rw [if_neg h0]
  rw [hsz] at htop
  have hnl:news.length=b.length * i.size:=r1.1
  have hend:(len+b.length) * i.size≤cap * i.size:=Nat.mul_le_mul_right _ hroom
  rw [Nat.add_mul] at hend
  have htop':loc.off+off * i.size+cap * i.size≤loc.top:=by rw [Nat.add_mul] at htop;omega
  have hsize:=k3.size
  have hp:loc.off+off * i.size+len * i.size+news.length≤c.size:=by omega
  have hseg:=seg_get c (loc.off+off * i.size+len * i.size) news hp
  let c':=(c.toList.take (loc.off+off * i.size+len * i.size)++news++c.toList.drop (loc.off+off * i.size+len * i.size+news.length)).toArray
  have hall2:=write_ok (c':=c') (μ':=μ') (h':=look (H.set id .dead++[.live i.size (l.drop off++b)])) (nid:=H.length) (l':=l.drop off++b) (loc':=nl) hr (look_live.2 hl) hm k2 hseg.1 (fun k hk=>?_) hle
   (by rw [← hset];exact look_app_new) hmn rfl (Nat.le_add_right _ _) (by show loc.off+(off+cap) * i.size≤loc.top;exact htop) (fun id0 h0 sz1 l1 hl1=>?_) (fun w' hsame=>?_)
  ·obtain ⟨q1,q2⟩:=hall2
   have hdom':∀ id0,(H.set id Blk.dead++[Blk.live i.size (l.drop off++b)]).length≤id0→μ' id0=none:=fun id0 h0=>by
    simp at h0
    rw [hmo id0 (by omega)]
    exact hdom id0 (by omega)
   have hvr:∀ w',VR w' I μ' rv (.slice ad (len+b.length) cap):=fun w'=>hin w' μ' (by rw [hmn]) hroom
   intro K Q hK
   unfold Oper.wp
   by_cases hc0:cap=0
   ·have hb0:b.length=0:=by omega
    have hnews:news=[]:=List.eq_nil_of_length_eq_zero (by rw [hnl,hb0];simp)
    subst hnews
    rw [hb0] at r2 r3
    have hrun:=exec (run_append_none (P:=P) (w:=w) (ty:=o.type) ht hu hdu hi r2 (by simpa using r3) (ad:=ad) (sLen:=len) (sCap:=cap) hlen)
    rw [hrun]
    have hcc:w.setRow loc.blk c'=w:=by
     have:c'=c:=by
      apply Array.ext'
      simp [c']
     rw [this]
     exact setRow_self w loc.blk c ty fr k2
    rw [hcc] at q1 q2
    simp only [Oper.upon]
    have hv0:VR w I μ' rv (.slice ad len cap):=by
     have:=hvr w
     rw [show len+b.length=len by omega] at this
     exact this
    exact hK _ w I μ' q2 q1 hdom' hv0
   ·have ha':ad=some ⟨loc.blk,loc.off+off * i.size,none⟩:=by
     rcases ha with h0 | h0
     ·exact absurd h0 hc0
     ·rw [h0,hsz]
    subst ha'
    have hst:(storeCells ((⟨loc.blk,loc.off+off * i.size,none⟩:Addr).add (len * i.size)) news 0).run P w=.ok () (w.setRow loc.blk c'):=by
     rw [addr_add _ rfl]
     have:=run_storeCells (P:=P) loc.blk (loc.off+off * i.size+len * i.size) ty fr news 0 c w k2 (by omega) (fun k h1 h2=>k3.frozen k (by omega) (by omega)) (fun u hu=>?_)
     ·simpa [c'] using this
     ·obtain ⟨j,hj,rfl⟩:=List.getElem_of_mem hu
      rcases Nat.eq_zero_or_pos i.size with h0 | hpos
      ·rw [hnl,h0] at hj;simp at hj
      ·have hjb:j / i.size < b.length:=by rw [Nat.div_lt_iff_lt_mul hpos];omega
       have hxx:b[j / i.size]?=some b[j / i.size]:=List.getElem?_eq_getElem hjb
       have hmem:=List.mem_of_getElem? hxx
       have hlx:=(hall _ hmem).1
       have hk:j % i.size < b[j / i.size].length:=by rw [hlx];exact Nat.mod_lt _ hpos
       obtain ⟨vv,g1,g2⟩:=r1.2.2 (j / i.size) _ (j % i.size) _ hxx (List.getElem?_eq_getElem hk)
       have hjj:j / i.size * i.size+j % i.size=j:=by have:=Nat.div_add_mod j i.size;rw [Nat.mul_comm] at this;exact this
       rw [hjj,List.getElem?_eq_getElem hj] at g1
       cases g1
       exact plain_one ((hall _ hmem).2 _ (List.getElem_mem hk)) g2
    have hrun:=exec (run_append_in (P:=P) (w:=w) (ty:=o.type) ht hu hdu hi r2 (r3 w (Ext.refl w)) hroom hst)
    rw [hrun]
    simp only [Oper.upon]
    exact hK _ _ I μ' q2 q1 hdom' (hvr _)
  ·rw [hseg.2 k,if_neg]
   rintro ⟨g1,g2⟩
   apply hk
   omega
  ·have hlt:id0 < H.length:=by
    rcases Nat.lt_or_ge id0 H.length with h1 | h1
    ·exact h1
    ·rw [look_big (by simp;omega)] at hl1;cases hl1
   rw [look_app_old (by simpa using hlt)] at hl1
   have hne:id0 ≠ id:=fun hh=>by
    subst hh
    rw [look_set_self hidl] at hl1
    cases hl1
   rw [look_set_ne hne] at hl1
   exact ⟨hne,hl1,hmo id0 h0⟩
  ·have hb':=k3.mono (w':=w') (I':=I) hsame (fun _ _ h=>h) hle
   have hr1:=r1.mono (w':=w') (I':=I) hsame (fun _ _ h=>h) hle
   refine ⟨rfl,⟨hb'.hty.1,by show loc.csz=c'.size;rw [show c'.size=c.size from hseg.1];exact hb'.hty.2⟩,?_,?_,fun k g1 g2=>hb'.frozen k ?_ ?_,fun xs hxs=>?_,fun i' xs k t hi' hk=>?_⟩
   ·show loc.off+(off+cap) * i.size≤c'.size
    have:c'.size=c.size:=hseg.1
    rw [Nat.add_mul];omega
   ·show loc.off+off * i.size+(l.drop off++b).length * i.size≤loc.off+(off+cap) * i.size
    rw [List.length_append,hdl,Nat.add_mul,Nat.add_mul];omega
   ·have:loc.off+off * i.size≤k:=g1
    omega
   ·have:k < loc.off+(off+cap) * i.size:=g2
    omega
   ·rcases List.mem_append.1 hxs with h1 | h1
    ·exact hb'.each xs (List.mem_of_mem_drop h1)
    ·exact (hall xs h1).1
   ·have hxl:xs.length=i.size:=by
     rcases List.mem_append.1 (List.mem_of_getElem? hi') with h1 | h1
     ·exact hb'.each xs (List.mem_of_mem_drop h1)
     ·exact (hall xs h1).1
    have hkl:k < i.size:=by rw [← hxl];exact (List.getElem?_eq_some_iff.1 hk).1
    show ∃ v,c'[loc.off+off * i.size+i' * i.size+k]?=some v∧_
    by_cases hil:i' < len
    ·rw [List.getElem?_append_left (by rw [hdl];exact hil),List.getElem?_drop] at hi'
     obtain ⟨vv,g1,g2⟩:=hb'.cells (off+i') xs k t hi' hk
     refine ⟨vv,?_,g2⟩
     have hx:=idx_lt hil hkl
     have hcv':c'[loc.off+off * i.size+i' * i.size+k]?=_:=hseg.2 _
     rw [hcv',if_neg (by omega),show loc.off+off * i.size+i' * i.size+k=loc.off+(off+i') * i.size+k by rw [Nat.add_mul];omega]
     exact g1
    ·rw [List.getElem?_append_right (by rw [hdl];omega),hdl] at hi'
     obtain ⟨vv,g1,g2⟩:=hr1.2.2 (i' - len) xs k t hi' hk
     refine ⟨vv,?_,g2⟩
     have hlt:=(List.getElem?_eq_some_iff.1 g1).1
     have hmul:(i' - len) * i.size=i' * i.size - len * i.size:=Nat.sub_mul _ _ _
     have hge:len * i.size≤i' * i.size:=Nat.mul_le_mul_right _ (by omega)
     have hcv':c'[loc.off+off * i.size+i' * i.size+k]?=_:=hseg.2 _
     rw [hcv',if_pos ⟨by omega,by omega⟩,show loc.off+off * i.size+i' * i.size+k - (loc.off+off * i.size+len * i.size)=(i' - len) * i.size+k by omega]
     exact g1
 ·-- moved
  have hel:elems H (.hs id off len false)=some ((l.drop off).take len):=by simp only [elems,hl,if_pos (show off+len≤l.length by omega)]
  have hvr:VR w I μ (.hs id off len false) (.slice ad len cap):=.hs _ _ _ _ _ loc _ _ hm ha hlen htop (fun h=>by cases h)
  obtain ⟨olds,o1,o2,o3⟩:=src_ok (P:=P) hr hvr hel (fun xs hx=>k3.each xs (List.mem_of_mem_drop (List.mem_of_mem_take hx)))
  have htk:(l.drop off).take len=l.drop off:=List.take_of_length_le (by omega)
  rw [htk] at o1 o3
  rw [hdl] at o3
  have hA:=append_fresh (o:=o) (a:=a) (base:=H.length) ht hu hdu hi hz hzs hr r1 r2 r3 o1 hdl o3 (by omega) hbig (hdom _ (Nat.le_refl _)) exec (rv:=rv) (fun w' blk μ' c hc hb'=>hnew w' blk I μ' c (by omega) hc hb')
  intro K Q hK
  refine hA K Q fun vv w' I' μ' hx h1 h2 h3 h4 h5 h6 h7=>?_
  have hsub:∀ id0 sz1 l1,look (H.set id .dead++[.live i.size (l.drop off++b)]) id0=.live sz1 l1→plc (look H) H.length [.live i.size (l.drop off++b)] id0=.live sz1 l1:=fun id0 sz1 l1 hl1=>by
   rw [← plc_append]
   by_cases hlt:id0 < H.length
   ·rw [look_app_old (by simpa using hlt)] at hl1
    rw [look_app_old hlt]
    by_cases hne:id0=id
    ·subst hne;rw [look_set_self hidl] at hl1;cases hl1
    ·rw [look_set_ne hne] at hl1;exact hl1
   ·by_cases heq:id0=H.length
    ·subst heq
     have e1:look (H.set id .dead++[.live i.size (l.drop off++b)]) H.length=.live i.size (l.drop off++b):=by
      have:=look_app_new (H:=H.set id .dead) (b:=.live i.size (l.drop off++b))
      rw [hset] at this;exact this
     rw [e1] at hl1
     rw [look_app_new];exact hl1
    ·rw [look_big (by simp;omega)] at hl1;cases hl1
  obtain ⟨q1,q2⟩:=h5.sub hsub
  refine hK vv w' I' μ' ⟨hx.step _,h1,fun b k h=>(h2 b k h).imp .inl (fun h=>h),h3,fun b' k hf'=>h7 b' k (q2 b' k hf')⟩ q1 (fun id0 h0=>?_) h6
  simp at h0
  rcases h4 id0 with g | g
  ·rw [g];exact hdom id0 (by omega)
  ·simp at g;omega
theorem op_appendM {t u el:TypeId} {du:TypeDesc} {i:TypeInfo} {z:Value} {x y:Operand} {x' y':Opd} (ho:o.op=.call { callee:=.builtin .append,args:=#[x,y],argTypes:=#[t,u] }) (ht:P.underlying t=some (.slice el)) (hu:P.underlying u=some du)
  (hdu:du=.string∨∃ e,du=.slice e) (hi:P.info? el=some i) (hz:i.zero=some z) (hzs:z.cells.size=i.size) (hx:TrX x x') (hy:TrX y y')
  (hr:HR w I μ (look H)) (he:ER w I μ e a.tmps) (hdom:∀ id,H.length≤id→μ id=none) (h:appendM H i.size i.bytes (ev e x') (ev e y')=some (v,H')):MOk P o a w I μ H v H':=by
 have hv:=hx.ok he
 have hw:=hy.ok he
 unfold appendM at h
 split at h
 ·rename_i id off len b hpx hb
  cases hl:H[id]? with
  | none=>rw [hl] at h;cases h
  | some bk =>
   rw [hl] at h
   cases bk with
   | dead=>cases h
   | live sz l =>
    simp only at h
    split at h
    ·rename_i hh
     obtain ⟨hs',hfit,hbig,hall⟩:=hh
     subst hs'
     simp only [Option.some.injEq,Prod.mk.injEq] at h
     obtain ⟨rfl,rfl⟩:=h
     simp only [List.all_eq_true,Bool.and_eq_true,beq_iff_eq] at hall
     have exec:∀ {vv:Value} {w':World},(Builtin.append_ #[t,u] o.type #[a.eval x,a.eval y]).run P w=.ok vv w'→(execOp a.eval o).run P w=.ok (.value vv) w':=fun hh=>by
      simp only [execOp,ho,resolve,invoke,builtin,Sem.run_bind,Sem.run_pure,Result.andThen_ok,List.map_toArray,List.map_cons,List.map_nil,hh]
     rw [hpx] at hv
     generalize hcv:a.eval x=cv at hv exec
     cases hv with
     | hs _ _ _ _ _ loc ad cap hm ha hlen htop hf =>
      have hsz0:loc.sz=i.size:=by
       obtain ⟨loc',c,ty,fr,k1,k2,k3⟩:=hr.live id _ l (look_live.2 hl)
       rw [hm] at k1
       cases k1
       exact k3.hsz
      refine op_appendG ht hu hdu hi hz hzs hr hdom hm ha hlen htop hl hfit hbig hall hb hw exec (fun w' μ' hmn hroom=>?_) (fun w' blk I' μ' c _ hc hb'=>?_)
      ·refine .hs _ _ _ _ _ _ _ _ hmn ?_ hroom ?_ (fun h=>by cases h)
       ·rcases ha with h0 | h0
        ·exact .inl h0
        ·right;rw [h0,hsz0];simp
       ·show loc.off+off * i.size+(0+cap) * i.size≤loc.off+(off+cap) * i.size
        rw [Nat.zero_add,Nat.add_mul];omega
      ·refine .hs _ _ _ _ _ _ _ _ hb' (.inr (by simp)) hc ?_ (fun h=>by cases h)
       simp
    ·cases h
 ·cases h
theorem op_appendB {t u el:TypeId} {du:TypeDesc} {i:TypeInfo} {z:Value} {x y:Operand} {x' y':Opd} (ho:o.op=.call { callee:=.builtin .append,args:=#[x,y],argTypes:=#[t,u] }) (ht:P.underlying t=some (.slice el)) (hu:P.underlying u=some du)
  (hdu:du=.string∨∃ e,du=.slice e) (hi:P.info? el=some i) (hz:i.zero=some z) (hzs:z.cells.size=i.size) (hx:TrX x x') (hy:TrX y y')
  (hr:HR w I μ (look H)) (he:ER w I μ e a.tmps) (hdom:∀ id,H.length≤id→μ id=none) (h:appendB H el i.size i.bytes (ev e x') (ev e y')=some (v,H')):MOk P o a w I μ H v H':=by
 have hv:=hx.ok he
 have hw:=hy.ok he
 unfold appendB at h
 cases hb:elems H (ev e y') with
 | none=>rw [hb] at h;cases h
 | some b =>
  rw [hb] at h
  simp only at h
  split at h
  ·rename_i hh
   obtain ⟨hs1,hall⟩:=hh
   simp only [List.all_eq_true,Bool.and_eq_true,beq_iff_eq] at hall
   have exec:∀ {vv:Value} {w':World},(Builtin.append_ #[t,u] o.type #[a.eval x,a.eval y]).run P w=.ok vv w'→(execOp a.eval o).run P w=.ok (.value vv) w':=fun hh=>by
    simp only [execOp,ho,resolve,invoke,builtin,Sem.run_bind,Sem.run_pure,Result.andThen_ok,List.map_toArray,List.map_cons,List.map_nil,hh]
   generalize hct:ev e x'=ct at hv h
   generalize hcv:a.eval x=cv at hv exec
   cases hv with
   | nb =>
    simp only at h
    obtain ⟨news,r1,r2,r3⟩:=src_ok (P:=P) hr hw hb (sz:=i.size) (fun xs hx=>by rw [hs1];exact (hall xs hx).1)
    split at h
    ·rename_i hb0
     simp only [Option.some.injEq,Prod.mk.injEq] at h
     obtain ⟨rfl,rfl⟩:=h
     have hnews:news=[]:=List.eq_nil_of_length_eq_zero (by rw [r1.1,hb0];simp)
     rw [hb0] at r2 r3
     subst hnews
     exact AOk.mok hdom (AOk.pureD hr (exec (run_append_none (P:=P) (ty:=o.type) ht hu hdu hi r2 (by simpa using r3) (Nat.le_refl _))) (.nb _))
    ·rename_i hb0
     split at h
     ·rename_i hbig
      simp only [Option.some.injEq,Prod.mk.injEq] at h
      obtain ⟨rfl,rfl⟩:=h
      have:=append_fresh (o:=o) (a:=a) (base:=H.length) (ol:=[]) (olds:=[]) (ad:=none) (sLen:=0) (sCap:=0) (rv:=.hb H.length b.length el) ht hu hdu hi hz hzs hr r1 r2 r3 RowOk.nil rfl (fun w' _=>by simp [Builtin.firstCells]) (by omega) (by simpa using hbig) (hdom _ (Nat.le_refl _)) exec
       (fun w' blk μ' c hc hb'=>by
        rw [Nat.zero_add] at hc ⊢
        rw [hs1] at hb'
        exact .hb _ _ _ _ _ _ hb' rfl rfl rfl rfl (by simp) hc (by omega))
      have:=AOk.mok hdom this
      rw [hs1] at this
      simpa using this
     ·cases h
   | hb _ id n T loc cap hm hT h0 hsz htop hcap hlen hpos =>
    simp only at h
    cases hl:H[id]? with
    | none=>rw [hl] at h;cases h
    | some bk =>
     rw [hl] at h
     cases bk with
     | dead=>cases h
     | live sz l =>
      split at h
      ·rename_i l0 hq
       simp only [Blk.live.injEq,Option.some.injEq] at hq
       obtain ⟨rfl,rfl⟩:=hq
       split at h
       ·rename_i hh2
        obtain ⟨hTe,hn,hbig⟩:=hh2
        simp only [Option.some.injEq,Prod.mk.injEq] at h
        obtain ⟨rfl,rfl⟩:=h
        have:=op_appendG (o:=o) (a:=a) (off:=0) (ad:=some ⟨loc.blk,0,none⟩) (rv:=.hb H.length (n+b.length) el) ht hu hdu hi hz hzs hr hdom hm (.inr (by simp [h0])) hlen (by rw [h0,hsz,htop,hcap];omega) (by rw [hs1];exact hl) (by omega) hbig
         (fun xs hx=>⟨by rw [hs1];exact (hall xs hx).1,(hall xs hx).2⟩) hb hw exec
         (fun w' μ' hmn hroom=>by
          rw [hs1] at hmn
          exact .hb _ _ _ _ (⟨loc.blk,loc.off+0 * 1,1,loc.off+(0+cap) * 1,loc.ty,loc.csz⟩:Loc) _ hmn (hT.trans hTe) (by show loc.off+0 * 1=0;omega) rfl (by show loc.off+(0+cap) * 1=loc.csz;omega) hcap hroom hpos)
         (fun w' blk I' μ' c hbg hc hb'=>by
          rw [hs1] at hb'
          exact .hb _ _ _ _ _ _ hb' rfl rfl rfl rfl (by simp) hc (by omega))
        rw [hs1] at this
        simpa using this
       ·cases h
      ·cases h
   | _=>cases h
  ·cases h
theorem freeze_heap (w:World) (g n:Nat) (hn:n ≠ 0) {c:Array Value} {ty:Nat} {fr:Nat×Nat} (hb:w.heap[g]?=some (.cells c ty fr)) :
  (w.freeze ⟨g,0,none⟩ n).heap[g]?=some (.cells c ty (if fr.1 == fr.2 then (0,0+n) else (min fr.1 0,max fr.2 (0+n)))):=by
 unfold World.freeze
 rw [if_neg hn]
 simp [Array.getElem?_modify,hb]
theorem freeze_other (w:World) (g n b:Nat) (h:b ≠ g):(w.freeze ⟨g,0,none⟩ n).heap[b]?=w.heap[b]?:=by
 unfold World.freeze
 split
 ·rfl
 ·simp [Array.getElem?_modify,Ne.symm h]
theorem freeze_size (w:World) (g n:Nat):(w.freeze ⟨g,0,none⟩ n).heap.size=w.heap.size:=by
 unfold World.freeze
 split <;> simp
theorem freeze_ok {id n:Nat} {l:List (List TV)} {loc:Loc} (hr:HR w I μ (look H)) (hl:H[id]?=some (.live 1 l)) (hm:μ id=some loc) (h0:loc.off=0) (htop:loc.top=loc.csz) (hn:n ≠ 0) (hnl:n≤l.length) :
  Stp w I μ (look H) (w.freeze ⟨loc.blk,0,none⟩ n) I μ (look (H.set id .dead))∧HR (w.freeze ⟨loc.blk,0,none⟩ n) I μ (look (H.set id .dead)):=by
 obtain ⟨loc',c,ty,fr,k1,k2,k3⟩:=hr.live id 1 l (look_live.2 hl)
 rw [hm] at k1
 cases k1
 have hidl:id < H.length:=(List.getElem?_eq_some_iff.1 hl).1
 have hfit:=k3.fits
 have hcs:=k3.hty.2
 have hfoot:∀ k,k < c.size→Foot μ (look H) loc.blk k:=fun k hk=>⟨id,1,l,loc,look_live.2 hl,hm,rfl,by omega,by omega⟩
 have hbn:=freeze_heap w loc.blk n hn k2
 have hw2:WStep (Foot μ (look H)) w (w.freeze ⟨loc.blk,0,none⟩ n):=by
  refine ⟨?_,?_,?_,by rw [freeze_size];exact Nat.le_refl _,fun b hb hnf=>?_,fun b c0 ty0 fr0 hb=>?_⟩
  ·unfold World.freeze;split <;> rfl
  ·unfold World.freeze;split <;> rfl
  ·unfold World.freeze;split <;> rfl
  ·by_cases hbl:b=loc.blk
   ·subst hbl
    exact absurd (hfoot 0 (by omega)) (hnf 0)
   ·exact freeze_other w _ n b hbl
  ·by_cases hbl:b=loc.blk
   ·subst hbl
    rw [k2] at hb
    cases hb
    refine ⟨c,_,hbn,rfl,fun _ _=>rfl,.inr ⟨hfoot,fun hh=>?_⟩⟩
    split
    ·show 0+n≤c.size;omega
    ·show max fr.2 (0+n)≤c.size;omega
   ·exact ⟨c0,fr0,by rw [freeze_other w _ n b hbl];exact hb,rfl,fun _ _=>rfl,.inl rfl⟩
 have hsub:∀ id0 sz1 l1,look (H.set id .dead) id0=.live sz1 l1→id0 ≠ id∧look H id0=.live sz1 l1:=fun id0 sz1 l1 hl1=>by
  have hne:id0 ≠ id:=fun hh=>by
   subst hh
   rw [look_set_self hidl] at hl1
   cases hl1
  rw [look_set_ne hne] at hl1
  exact ⟨hne,hl1⟩
 have hf:∀ b k,Foot μ (look (H.set id .dead)) b k→Foot μ (look H) b k:=fun b k ⟨id0,sz1,l1,loc1,f1,f2,f3,f4,f5⟩=>⟨id0,sz1,l1,loc1,(hsub _ _ _ f1).2,f2,f3,f4,f5⟩
 have hsame:=hw2.same hr.noI
 refine ⟨⟨hw2,fun _ _ h=>h,fun _ _ h=>.inl (.inl h),Mu.le_refl _,fun b k h=>.inl (hf b k h)⟩,⟨fun id0 sz1 l1 hl1=>?_,fun id1 id2 sz1 l1 sz2 l2 loc1 loc2 h1 h2=>hr.disj id1 id2 sz1 l1 sz2 l2 loc1 loc2 (hsub _ _ _ h1).2 (hsub _ _ _ h2).2,fun b k h=>hr.noI b k (hf b k h),hr.lt.step hw2 hr.noI (fun _ _ h=>h) fun b k h=>by rw [freeze_size];exact hr.lt b k h⟩⟩
 obtain ⟨hne,hlo⟩:=hsub _ _ _ hl1
 obtain ⟨loc1,c1,ty1,fr1,a1,a2,a3⟩:=hr.live id0 sz1 l1 hlo
 have a3':=a3.mono (w':=w.freeze ⟨loc.blk,0,none⟩ n) (I':=I) (μ':=μ) hsame (fun _ _ h=>h) (Mu.le_refl _)
 by_cases hbl:loc1.blk=loc.blk
 ·rw [hbl,k2] at a2
  cases a2
  refine ⟨loc1,c,ty,_,a1,by rw [hbl];exact hbn,a3'.hsz,a3'.hty,a3'.size,a3'.fits,fun k g1 g2=>?_,a3'.each,a3'.cells⟩
  have hs:=a3'.size
  exact (hr.disj id0 id sz1 l1 1 l loc1 loc hlo (look_live.2 hl) hne a1 hm hbl k g1 g2 (by omega) (by omega)).elim
 ·exact ⟨loc1,c1,ty1,fr1,a1,by rw [freeze_other w _ n _ hbl];exact a2,a3'⟩
theorem run_loadB (w:World):∀ (ns:List Int) (b o:Nat) (acc:ByteArray),(∀ j n,ns[j]?=some n→w.cell? ⟨b,o+j,none⟩=some (.int .u8 n)) →
  (loadBytes ⟨b,o,none⟩ acc ns.length).run P w=.ok (ns.foldl (fun acc n=>acc.push n.toNat.toUInt8) acc) w
 | [],b,o,acc,_=>rfl
 | n::ns,b,o,acc,h=>by
  have h0:=h 0 n rfl
  have ih:=run_loadB w ns b (o+1) (acc.push n.toNat.toUInt8) (fun j m hj=>by have:=h (j+1) m (by simpa using hj);rw [show o+1+j=o+(j+1) by omega];exact this)
  have ha:(⟨b,o,none⟩:Addr).add 1=⟨b,o+1,none⟩:=rfl
  simp only [Nat.add_zero] at h0
  simp [loadBytes,h0,ha,ih]
theorem fold_push:∀ (ns:List Int) (acc:ByteArray),(ns.foldl (fun acc n=>acc.push n.toNat.toUInt8) acc).data.toList=acc.data.toList++ns.map fun n=>UInt8.ofNat n.toNat
 | [],acc=>by simp
 | n::ns,acc=>by
  simp only [List.foldl_cons,fold_push ns,List.map_cons]
  simp [ByteArray.push]
theorem run_unsafeStr (w:World) (pt it ty e:TypeId) (hp:P.underlying pt=some (.pointer e)) (hc:P.cellsOf e=1) (g cells:Nat) (hsh:w.shape? g=some (e,cells)) (ns:List Int) (h0:ns.length ≠ 0) (hn:ns.length≤cells) (h63:ns.length≤9223372036854775807)
  (hcell:∀ j n,ns[j]?=some n→w.cell? ⟨g,0+j,none⟩=some (.int .u8 n)) :
  (Builtin.unsafeString_ #[pt,it] ty #[.pointer (some ⟨g,0,none⟩),.int .i64 ns.length]).run P w=.ok (.string (ns.foldl (fun acc n=>acc.push n.toNat.toUInt8) .empty)) (w.freeze ⟨g,0,none⟩ ns.length):=by
 have hlb:=run_loadB (P:=P) w ns g 0 .empty hcell
 have hlies:=Lib.liesAt_bytes (P:=P) hc (cells / P.cellsOf e) ns.length (by rw [hc];simpa using hn)
 have h63':¬ (9223372036854775807:Int) < (ns.length:Int):=by omega
 have hdef:Builtin.unsafeString_ #[pt,it] ty #[.pointer (some ⟨g,0,none⟩),.int .i64 ns.length] =
   (do
    let n ← asInt (.int .i64 ns.length)
    if n < 0 then runtimePanic (.error "unsafe.String: len out of range")
    if n > IntKind.i64.max then unsupported (.unsafePointer "String: a length above the largest int")
    if n=0 then pure (.string .empty)
    else if ← variablesAt ⟨g,0,none⟩ (← elemOf pt) n.toNat then do
     let s ← loadBytes ⟨g,0,none⟩ .empty n.toNat
     freeze ⟨g,0,none⟩ n.toNat
     pure (.string s)
    else unsupported (.unsafePointer "String: not so many bytes at ptr")) := rfl
 rw [hdef]
 have hmax:IntKind.i64.max=9223372036854775807:=rfl
 have hneg:¬ (ns.length:Int) < 0:=by omega
 have hz:¬ ns=[]:=fun hh=>h0 (by rw [hh];rfl)
 simp [asInt,asIntOf,hmax,h63',hneg,hz,variablesAt,hsh,elemOf,run_underlying hp,hlies,hlb]
theorem op_ustr {pt it el:TypeId} {x y:Operand} {x' y':Opd} (ho:o.op=.call { callee:=.builtin .unsafeString,args:=#[x,y],argTypes:=#[pt,it] }) (hp:P.underlying pt=some (.pointer el)) (hc:P.cellsOf el=1) (hx:TrX x x') (hy:TrX y y')
  (hr:HR w I μ (look H)) (he:ER w I μ e a.tmps) (hdom:∀ id,H.length≤id→μ id=none) (h:ustrM H el (ev e x') (ev e y')=some (v,H')):MOk P o a w I μ H v H':=by
 have hv:=hx.ok he
 have hw:=hy.ok he
 unfold ustrM at h
 have exec:∀ {vv:Value} {w':World},(Builtin.unsafeString_ #[pt,it] o.type #[a.eval x,a.eval y]).run P w=.ok vv w'→(execOp a.eval o).run P w=.ok (.value vv) w':=fun hh=>by
  simp only [execOp,ho,resolve,invoke,builtin,Sem.run_bind,Sem.run_pure,Result.andThen_ok,List.map_toArray,List.map_cons,List.map_nil,hh]
 generalize hct:ev e x'=ct at hv h
 generalize hcu:ev e y'=cu at hw h
 generalize hcv:a.eval x=cv at hv exec
 generalize hcw:a.eval y=cw at hw exec
 cases hv with
 | nilp =>
  cases hw with
  | int _ k m =>
   cases k <;> simp only at h <;> try cases h
   split at h
   ·rename_i hk
    subst hk
    simp only [Option.some.injEq,Prod.mk.injEq] at h
    obtain ⟨rfl,rfl⟩:=h
    have hrun:=exec (Lib.run_unsafeString_none w pt it o.type none (P:=P))
    have:=AOk.mok hdom (AOk.pure (o:=o) (a:=a) (base:=H.length) (v:=.str []) hr hrun (.str _ .empty))
    simpa using this
   ·cases h
  | _=>cases h
 | bd _ id T loc hm hT h0 hsz htop =>
  cases hw with
  | int _ k m =>
   cases k <;> simp only at h <;> try cases h
   cases hl:H[id]? with
   | none=>rw [hl] at h;cases h
   | some bk =>
    rw [hl] at h
    cases bk with
    | dead=>cases h
    | live sz l =>
     split at h
     ·rename_i l0 hq
      simp only [Blk.live.injEq,Option.some.injEq] at hq
      obtain ⟨rfl,rfl⟩:=hq
      split at h
      ·rename_i hh
       obtain ⟨hTe,hk,hpos,hmx⟩:=hh
       simp only [Option.map_eq_some_iff,Prod.mk.injEq] at h
       obtain ⟨bs,hbs,rfl,rfl⟩:=h
       obtain ⟨ns,rfl,rfl⟩:=bytes_of hbs
       subst hk
       rw [List.length_map] at hpos hmx exec
       obtain ⟨loc',c,ty,fr,k1,k2,k3⟩:=hr.live id 1 _ (look_live.2 hl)
       rw [hm] at k1
       cases k1
       have hfit:=k3.fits
       rw [List.length_map] at hfit
       have hsz:=k3.size
       have hty:=k3.hty.1
       have hsh:w.shape? loc.blk=some (el,c.size):=by
        simp only [World.shape?,k2]
        rw [← hTe,← hT,hty]
       have hrun:=exec (run_unsafeStr (P:=P) w pt it o.type el hp hc loc.blk c.size hsh ns (by omega) (by omega) (by unfold maxRow at hmx;omega) (fun j n hj=>by
        obtain ⟨vv,g1,g2⟩:=k3.cells j [.int .u8 n] 0 (.int .u8 n) (by simp [hj]) rfl
        cases g2
        rw [cell_of_heap k2]
        rw [show loc.off+j * 1+0=0+j by omega] at g1
        exact g1))
       have hfz:=freeze_ok (n:=ns.length) hr hl hm h0 htop (by omega) (by simp)
       intro K Q hK
       unfold Oper.wp
       rw [hrun]
       refine hK _ _ I μ hfz.1 hfz.2 (fun id0 hid=>hdom id0 (by simpa using hid)) ?_
       have:=VR.str (w:=w.freeze ⟨loc.blk,0,none⟩ ns.length) (I:=I) μ (ns.foldl (fun acc n=>acc.push n.toNat.toUInt8) .empty)
       rw [fold_push] at this
       simpa using this
      ·cases h
     ·cases h
  | _=>cases h
 | _=>cases h
theorem src_take (hr:HR w I μ (look H)) {t:TV} {vv:Value} (hv:VR w I μ t vv) (hstr:isStr t=false) {b:List (List TV)} {sz m:Nat} (hb:elems H t=some b) (hsz:∀ xs ∈ b,xs.length=sz) (hm:m≤b.length) :
  ∃ news:List Value,RowOk w I μ sz (b.take m) news∧(∀ w',(Builtin.lenOf vv).run P w'=.ok b.length w')∧∀ w',Ext w w'→(Builtin.firstCells sz m vv).run P w'=.ok news.toArray w':=by
 have slice:∀ {ad:Option Addr} {len cap:Nat},vv=.slice ad len cap→∃ news:List Value,RowOk w I μ sz (b.take m) news∧(∀ w',(Builtin.lenOf vv).run P w'=.ok b.length w')∧∀ w',Ext w w'→(Builtin.firstCells sz m vv).run P w'=.ok news.toArray w':=by
  intro ad len cap hvv
  obtain ⟨h1,h2,h3⟩:=elems_at hr hv hb hsz hvv
  subst hvv
  rcases Nat.eq_zero_or_pos m with h0 | hpos
  ·subst h0
   refine ⟨[],by simpa using RowOk.nil,fun w'=>by simp [Builtin.lenOf,h1],fun w' _=>?_⟩
   cases ad <;> simp [Builtin.firstCells,loadCells,loadCellsFrom]
  ·have hne:b ≠ []:=by intro hh;rw [hh] at hm;simp at hm;omega
   obtain ⟨B,O,ha,g,hg⟩:=h3 hne
   have hkey:∀ (i:Nat) (xs:List TV),(b.take m)[i]?=some xs→b[i]?=some xs:=fun i xs hi=>by
    rw [List.getElem?_take] at hi
    split at hi
    ·exact hi
    ·cases hi
   obtain ⟨news,r1,r2⟩:=row_of_at (b:=b.take m) (fun xs hx=>hsz xs (List.mem_of_mem_take hx)) (fun i xs k t hi hk=>hg i xs k t (hkey i xs hi) hk)
   refine ⟨news,r1,fun w'=>by simp [Builtin.lenOf,h1],fun w' hx=>?_⟩
   subst ha
   have:=run_loadCells_list (P:=P) w' ⟨B,O,none⟩ news (fun j v hj=>by rw [addr_add _ rfl];exact hx.cell (r2 j v hj))
   rw [r1.1,show (b.take m).length=m by simp;omega] at this
   simpa [Builtin.firstCells] using this
 cases hv with
 | str _ s=>simp [isStr] at hstr
 | vs _ l ad cap sz' B O val hcap ha hsz' hc hv=>exact slice rfl
 | hs _ id off len' full loc ad' cap' hm ha hlen htop hf=>exact slice rfl
 | hc=>exact slice rfl
 | es=>exact slice rfl
 | nils=>exact slice rfl
 | ne=>exact slice rfl
 | _=>cases hb
theorem row_one {sz:Nat} {b:List (List TV)} {news:List Value} (h:RowOk w I μ sz b news) (hpl:∀ xs ∈ b,xs.all plain=true):∀ u ∈ news,u.oneCell'=true:=by
 intro u hu
 obtain ⟨j,hj,rfl⟩:=List.getElem_of_mem hu
 rcases Nat.eq_zero_or_pos sz with h0 | hpos
 ·rw [h.1,h0] at hj;simp at hj
 ·have hjb:j / sz < b.length:=by rw [Nat.div_lt_iff_lt_mul hpos,← h.1];exact hj
  have hxx:b[j / sz]?=some b[j / sz]:=List.getElem?_eq_getElem hjb
  have hmem:=List.mem_of_getElem? hxx
  have hlx:=h.2.1 _ hmem
  have hk:j % sz < b[j / sz].length:=by rw [hlx];exact Nat.mod_lt _ hpos
  obtain ⟨vv,g1,g2⟩:=h.2.2 (j / sz) _ (j % sz) _ hxx (List.getElem?_eq_getElem hk)
  have hjj:j / sz * sz+j % sz=j:=by have:=Nat.div_add_mod j sz;rw [Nat.mul_comm] at this;exact this
  rw [hjj,List.getElem?_eq_getElem hj] at g1
  cases g1
  have:=hpl _ hmem
  simp only [List.all_eq_true] at this
  exact plain_one (this _ (List.getElem_mem hk)) g2
theorem op_copyM {t u el:TypeId} {i:TypeInfo} {x y:Operand} {x' y':Opd} (ho:o.op=.call { callee:=.builtin .copy,args:=#[x,y],argTypes:=#[t,u] }) (ht:P.underlying t=some (.slice el)) (hi:P.info? el=some i) (hx:TrX x x') (hy:TrX y y')
  (hr:HR w I μ (look H)) (he:ER w I μ e a.tmps) (hdom:∀ id,H.length≤id→μ id=none) (h:copyM H i.size (ev e x') (ev e y')=some (v,H')):MOk P o a w I μ H v H':=by
 have hv:=hx.ok he
 have hw:=hy.ok he
 unfold copyM at h
 split at h
 ·rename_i id off len b hrng hb
  cases hl:H[id]? with
  | none=>rw [hl] at h;cases h
  | some bk =>
   rw [hl] at h
   cases bk with
   | dead=>cases h
   | live sz l =>
    simp only at h
    split at h
    ·rename_i hh
     obtain ⟨hstr,hs',hfit,hall,hpla⟩:=hh
     subst hs'
     simp only [Option.some.injEq,Prod.mk.injEq] at h
     obtain ⟨rfl,rfl⟩:=h
     simp only [List.all_eq_true,beq_iff_eq] at hall hpla
     obtain ⟨news,r1,r2,r3⟩:=src_take (P:=P) (m:=min b.length len) hr hw hstr hb (sz:=i.size) hall (Nat.min_le_left _ _)
     have exec:∀ {vv:Value} {w':World},(Builtin.copy_ #[t,u] o.type #[a.eval x,a.eval y]).run P w=.ok vv w'→(execOp a.eval o).run P w=.ok (.value vv) w':=fun hh=>by
      simp only [execOp,ho,resolve,invoke,builtin,Sem.run_bind,Sem.run_pure,Result.andThen_ok,List.map_toArray,List.map_cons,List.map_nil,hh]
     obtain ⟨loc,ad,cap,hcv,hm,hlen,ha⟩:=rng_ok hr hv hrng
     rw [hcv] at exec
     obtain ⟨loc',c,ty,fr,k1,k2,k3⟩:=hr.live id _ l (look_live.2 hl)
     rw [hm] at k1
     cases k1
     have hidl:id < H.length:=(List.getElem?_eq_some_iff.1 hl).1
     have hsz:=k3.hsz
     have hnmin:Nat.min b.length len=min b.length len:=rfl
     generalize hmm:min b.length len=m at r1 r3 exec hnmin hpla ⊢
     have hml:m≤len:=by omega
     have hmb:m≤b.length:=by omega
     have hbl:(b.take m).length=m:=by simp;omega
     rcases Nat.eq_zero_or_pos m with h0 | hpos
     ·subst h0
      have hnews:news=[]:=List.eq_nil_of_length_eq_zero (by rw [r1.1];simp)
      subst hnews
      have hH:H.set id (.live i.size (l.take off++b.take 0++l.drop (off+0)))=H:=by
       simp only [List.take_zero,List.append_nil,Nat.add_zero,List.take_append_drop]
       have:=List.set_getElem_self hidl
       rw [(List.getElem?_eq_some_iff.1 hl).2] at this
       exact this
      rw [hH]
      have hrun:=exec (vv:=.int .i64 (0:Nat)) (w':=w) (by
       have hz:=r3 w (Ext.refl w)
       cases ad <;> simp [Builtin.copy_,run_underlying ht,sizeOf,typeInfo,hi,r2,hnmin,hz,storeCells,goInt])
      intro K Q hK
      unfold Oper.wp
      rw [hrun]
      simp only [Oper.upon]
      exact hK _ w I μ (Stp.refl _ _ _ _) hr hdom (.int _ _ _)
     ·have ha':ad=some ⟨loc.blk,loc.off+off * i.size,none⟩:=by
       rcases ha with h0 | h0
       ·omega
       ·rw [h0,hsz]
      subst ha'
      have hnl:news.length=m * i.size:=by rw [r1.1,hbl]
      have hfits:=k3.fits
      have hsize:=k3.size
      have hend:(off+m) * i.size≤l.length * i.size:=Nat.mul_le_mul_right _ (by omega)
      rw [Nat.add_mul] at hend
      have hp:loc.off+off * i.size+news.length≤c.size:=by omega
      have hseg:=seg_get c (loc.off+off * i.size) news hp
      let c':=(c.toList.take (loc.off+off * i.size)++news++c.toList.drop (loc.off+off * i.size+news.length)).toArray
      have hst:(storeCells ⟨loc.blk,loc.off+off * i.size,none⟩ news 0).run P w=.ok () (w.setRow loc.blk c'):=by
       have:=run_storeCells (P:=P) loc.blk (loc.off+off * i.size) ty fr news 0 c w k2 (by omega) (fun k h1 h2=>k3.frozen k (by omega) (by omega)) (row_one r1 fun xs hxs=>?_)
       ·simpa [c'] using this
       ·have:=hpla xs hxs
        simpa using this
      have hrun:=exec (vv:=.int .i64 (m:Int)) (w':=w.setRow loc.blk c') (by
       have hz:=r3 w (Ext.refl w)
       simp [Builtin.copy_,run_underlying ht,sizeOf,typeInfo,hi,r2,hnmin,hz,hst,goInt])
      have hlen':(l.take off++b.take m++l.drop (off+m)).length=l.length:=by simp;omega
      have hall2:=write_ok (c':=c') (μ':=μ) (h':=look (H.set id (.live i.size (l.take off++b.take m++l.drop (off+m))))) (nid:=id) (l':=l.take off++b.take m++l.drop (off+m)) (loc':=loc) hr (look_live.2 hl) hm k2 hseg.1 (fun k hk=>?_) (Mu.le_refl _)
       (look_set_self hidl) hm rfl (Nat.le_refl _) (Nat.le_refl _) (fun id0 h0 sz1 l1 hl1=>?_) (fun w' hsame=>?_)
      ·obtain ⟨q1,q2⟩:=hall2
       intro K Q hK
       unfold Oper.wp
       rw [hrun]
       simp only [Oper.upon]
       exact hK _ _ I μ q2 q1 (fun id0 h0=>hdom id0 (by simpa using h0)) (.int _ _ _)
      ·rw [hseg.2 k,if_neg]
       rintro ⟨g1,g2⟩
       apply hk
       omega
      ·rw [look_set_ne h0] at hl1
       exact ⟨h0,hl1,rfl⟩
      ·have hb':=k3.mono (w':=w') (I':=I) hsame (fun _ _ h=>h) (Mu.le_refl μ)
       have hr1:=r1.mono (w':=w') (I':=I) hsame (fun _ _ h=>h) (Mu.le_refl μ)
       have heach:∀ xs ∈ l.take off++b.take m++l.drop (off+m),xs.length=i.size:=fun xs hxs=>by
        rcases List.mem_append.1 hxs with h1 | h1
        ·rcases List.mem_append.1 h1 with h2 | h2
         ·exact hb'.each xs (List.mem_of_mem_take h2)
         ·exact hall xs (List.mem_of_mem_take h2)
        ·exact hb'.each xs (List.mem_of_mem_drop h1)
       refine ⟨hb'.hsz,⟨hb'.hty.1,by show loc.csz=c'.size;rw [hseg.1];exact hb'.hty.2⟩,by show loc.top≤c'.size;rw [hseg.1];exact hb'.size,by rw [hlen'];exact hb'.fits,hb'.frozen,heach,fun i' xs k t hi' hk=>?_⟩
       have hxl:xs.length=i.size:=heach xs (List.mem_of_getElem? hi')
       have hkl:k < i.size:=by rw [← hxl];exact (List.getElem?_eq_some_iff.1 hk).1
       have hcv':c'[loc.off+i' * i.size+k]?=_:=hseg.2 _
       have htk:(l.take off).length=off:=by simp;omega
       by_cases h1:i' < off
       ·rw [List.append_assoc,List.getElem?_append_left (by rw [htk];exact h1),List.getElem?_take,if_pos h1] at hi'
        obtain ⟨vv,g1,g2⟩:=hb'.cells i' xs k t hi' hk
        refine ⟨vv,?_,g2⟩
        have hx:=idx_lt h1 hkl
        rw [hcv',if_neg (by omega)]
        exact g1
       ·by_cases h2:i' < off+m
        ·rw [List.append_assoc,List.getElem?_append_right (by rw [htk];omega),htk,List.getElem?_append_left (by rw [hbl];omega)] at hi'
         obtain ⟨vv,g1,g2⟩:=hr1.2.2 (i' - off) xs k t hi' hk
         refine ⟨vv,?_,g2⟩
         have hlt:=(List.getElem?_eq_some_iff.1 g1).1
         have hmul:(i' - off) * i.size=i' * i.size - off * i.size:=Nat.sub_mul _ _ _
         have hge:off * i.size≤i' * i.size:=Nat.mul_le_mul_right _ (by omega)
         rw [hcv',if_pos ⟨by omega,by omega⟩,show loc.off+i' * i.size+k - (loc.off+off * i.size)=(i' - off) * i.size+k by omega]
         exact g1
        ·rw [List.getElem?_append_right (by simp;omega),List.getElem?_drop] at hi'
         rw [show off+m+(i' - (l.take off++b.take m).length)=i' by simp;omega] at hi'
         obtain ⟨vv,g1,g2⟩:=hb'.cells i' xs k t hi' hk
         refine ⟨vv,?_,g2⟩
         have hge:(off+m) * i.size≤i' * i.size:=Nat.mul_le_mul_right _ (by omega)
         rw [Nat.add_mul] at hge
         rw [hcv',if_neg (by omega)]
         exact g1
    ·cases h
 ·cases h
theorem anch_ok (hr:HR w I μ (look H)) (hdom:∀ id,H.length≤id→μ id=none) {v0:TV} {vv:Value} (hv:VR w I μ v0 vv) {v:TV} {H':Heap} (h:anch H v0=some (v,H')) :
  ∃ μ',Stp w I μ (look H) w I μ' (look H')∧HR w I μ' (look H')∧(∀ id,H'.length≤id→μ' id=none)∧VR w I μ' v vv:=by
 cases v0 <;> simp only [anch,reduceCtorEq] at h
 rename_i id off len full
 split at h
 case h_2=>cases h
 rename_i sz l hb
 split at h
 case isFalse=>cases h
 rename_i hc
 simp only [Option.some.injEq,Prod.mk.injEq] at h
 obtain ⟨rfl,rfl⟩:=h
 have hid:id < H.length:=(List.getElem?_eq_some_iff.1 hb).1
 cases hv with
 | hs _ _ _ _ _ loc a cap hm ha hlen htop hf =>
 obtain ⟨loc',c,ty,fr,k1,k2,k3⟩:=hr.live id sz l (look_live.2 hb)
 rw [hm] at k1;cases k1
 have hsz:loc.sz=sz:=k3.hsz
 have hfit:=k3.fits
 have hmul:off * sz+((l.drop off).take len).length * sz≤l.length * sz:=by
  rw [← Nat.add_mul]
  exact Nat.mul_le_mul_right _ (by simp;omega)
 have hle:μ.le (fun j=>if j=H.length then some ⟨loc.blk,loc.off+off * loc.sz,loc.sz,loc.top,loc.ty,loc.csz⟩ else μ j):=fun j lc hj=>by
  have hn:j ≠ H.length:=fun hh=>by subst hh;rw [hdom _ (Nat.le_refl _)] at hj;cases hj
  simp only [hn,if_false];exact hj
 have hlook:∀ j sz1 l1,look (H.set id .dead++[.live sz ((l.drop off).take len)]) j=.live sz1 l1→(j=H.length∧sz1=sz∧l1=(l.drop off).take len)∨(j ≠ H.length∧j ≠ id∧look H j=.live sz1 l1):=fun j sz1 l1 hl=>by
  unfold look at hl
  simp only [List.getD_eq_getElem?_getD] at hl
  rcases Nat.lt_trichotomy j H.length with h1 | h1 | h1
  ·rw [List.getElem?_append_left (by simpa using h1)] at hl
   by_cases hj:j=id
   ·subst hj;rw [List.getElem?_set_self h1] at hl;cases hl
   ·rw [List.getElem?_set_ne (Ne.symm hj)] at hl
    exact .inr ⟨by omega,hj,by unfold look;simpa [List.getD_eq_getElem?_getD] using hl⟩
  ·subst h1
   rw [List.getElem?_append_right (by simp)] at hl
   simp at hl
   exact .inl ⟨rfl,hl.1.symm,hl.2.symm⟩
  ·rw [List.getElem?_eq_none (by simp;omega)] at hl;cases hl
 have hfoot:∀ b k,Foot (fun j=>if j=H.length then some ⟨loc.blk,loc.off+off * loc.sz,loc.sz,loc.top,loc.ty,loc.csz⟩ else μ j) (look (H.set id .dead++[.live sz ((l.drop off).take len)])) b k→Foot μ (look H) b k:=fun b k ⟨j,sz1,l1,lc,f1,f2,f3,f4,f5⟩=>by
  rcases hlook j sz1 l1 f1 with ⟨g1,g2,g3⟩ | ⟨g1,g2,g3⟩
  ·subst g1
   simp only [if_true,Option.some.injEq] at f2
   subst f2
   exact ⟨id,sz,l,loc,look_live.2 hb,hm,f3,by simp only at f4;omega,f5⟩
  ·simp only [g1,if_false] at f2
   exact ⟨j,sz1,l1,lc,g3,f2,f3,f4,f5⟩
 refine ⟨fun j=>if j=H.length then some ⟨loc.blk,loc.off+off * loc.sz,loc.sz,loc.top,loc.ty,loc.csz⟩ else μ j,⟨WStep.refl _ _,fun _ _ h=>h,fun _ _ h=>.inl (.inl h),hle,fun b k hf=>.inl (hfoot b k hf)⟩,⟨fun j sz1 l1 hl=>?_,fun i j sz1 l1 sz2 l2 lc1 lc2 h1 h2 hne m1 m2 hbk k q1 q2 q3 q4=>?_,fun b k hf=>hr.noI b k (hfoot b k hf),hr.lt⟩,fun j hj=>?_,?_⟩
 ·rcases hlook j sz1 l1 hl with ⟨g1,g2,g3⟩ | ⟨g1,g2,g3⟩
  ·subst g1;subst g2;subst g3
   refine ⟨⟨loc.blk,loc.off+off * loc.sz,loc.sz,loc.top,loc.ty,loc.csz⟩,c,ty,fr,by simp,k2,hsz,k3.hty,k3.size,?_,fun k q1 q2=>k3.frozen k (by simp only at q1;omega) q2,fun xs hx=>k3.each xs (List.mem_of_mem_drop (List.mem_of_mem_take hx)),fun i xs k t h1 h2=>?_⟩
   ·show loc.off+off * loc.sz+_≤loc.top
    rw [hsz];omega
   ·have h3:l[off+i]?=some xs:=by
     rw [List.getElem?_take] at h1
     split at h1
     ·rw [List.getElem?_drop] at h1;exact h1
     ·cases h1
    obtain ⟨v,v1,v2⟩:=k3.cells (off+i) xs k t h3 h2
    refine ⟨v,?_,v2.mono ((Ext.refl w).same I) (fun _ _ h=>h) _ hle⟩
    show c[loc.off+off * loc.sz+i * sz1+k]?=some v
    rw [hsz,← v1,Nat.add_mul]
    congr 1;omega
  ·obtain ⟨lc,c',ty',fr',a1,a2,a3⟩:=hr.live j sz1 l1 g3
   exact ⟨lc,c',ty',fr',by simp only [g1,if_false];exact a1,a2,a3.mono ((Ext.refl w).same I) (fun _ _ h=>h) hle⟩
 ·rcases hlook i sz1 l1 h1 with ⟨g1,g2,g3⟩ | ⟨g1,g2,g3⟩ <;> rcases hlook j sz2 l2 h2 with ⟨g4,g5,g6⟩ | ⟨g4,g5,g6⟩
  ·exact hne (by rw [g1,g4])
  ·simp only [g1,if_true,Option.some.injEq] at m1
   simp only [g4,if_false] at m2
   subst m1
   exact hr.disj id j sz l sz2 l2 loc lc2 (look_live.2 hb) g6 (fun hh=>g5 hh.symm) hm m2 hbk k (by simp only at q1;omega) q2 q3 q4
  ·simp only [g4,if_true,Option.some.injEq] at m2
   simp only [g1,if_false] at m1
   subst m2
   exact hr.disj i id sz1 l1 sz l lc1 loc g3 (look_live.2 hb) g2 m1 hm hbk k q1 q2 (by simp only at q3;omega) q4
  ·simp only [g1,if_false] at m1
   simp only [g4,if_false] at m2
   exact hr.disj i j sz1 l1 sz2 l2 lc1 lc2 g3 g6 hne m1 m2 hbk k q1 q2 q3 q4
 ·simp only [List.length_append,List.length_set,List.length_singleton] at hj
  have hn:j ≠ H.length:=by omega
  simp only [hn,if_false]
  exact hdom j (by omega)
 ·refine .hs _ _ _ _ _ ⟨loc.blk,loc.off+off * loc.sz,loc.sz,loc.top,loc.ty,loc.csz⟩ _ _ (by simp) ?_ hlen ?_ (fun h=>by cases h)
  ·rcases ha with h | h
   ·exact .inl h
   ·exact .inr (by rw [h];simp)
  ·show loc.off+off * loc.sz+(0+cap) * loc.sz≤loc.top
   rw [Nat.add_mul] at htop
   simp only [Nat.zero_add];omega
theorem mok_anch {o:Oper} {a:Act} {v0 v:TV} {H':Heap} (h0:MOk P o a w I μ H v0 (H++[])) (h:anch H v0=some (v,H')):MOk P o a w I μ H v H':=by
 rw [List.append_nil] at h0
 intro K Q hK
 refine h0 K Q fun vv w' I' μ' s1 s2 s3 s4=>?_
 obtain ⟨μ2,t1,t2,t3,t4⟩:=anch_ok s2 s3 s4 h
 exact hK vv w' I' μ2 (s1.trans t1) t2 t3 t4
end
end Go.Proofs.TM
