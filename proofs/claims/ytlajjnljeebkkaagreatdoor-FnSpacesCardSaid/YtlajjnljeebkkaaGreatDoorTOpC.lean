import Derived.Test.YtlajjnljeebkkaaGreatDoorTOpB
import Derived.Laws.Strings
namespace Go.Proofs.TM
open Go
theorem bytes_append (x y:ByteArray):(x++y).data.toList=x.data.toList++y.data.toList:=by simp
theorem bytes_extract (s:ByteArray) (l h:Nat):(s.extract l h).data.toList=(s.data.toList.take h).drop l:=by
 simp [List.drop_take,List.extract]
section
variable {P:Program}
theorem run_eqGuard {op:BinOp} {t:TypeId} {x y:Operand} {a b:Value} (h:∀ l m,¬ (a=.agg l∧b=.agg m)) (h2:a=.nilIface→b=.nilIface→∃ c,y=.const c) (w:World):(eqGuard op t x y a b).run P w=.ok () w:=by
 by_cases hop:op=.eql∨op=.neq
 ·rcases hop with rfl | rfl <;>
   (unfold eqGuard
    simp only [Bool.not_true,Bool.false_eq_true,if_false]
    split
    ·obtain ⟨c,hc⟩:=h2 rfl rfl
     simp [hc]
    ·rename_i l m;exact absurd ⟨rfl,rfl⟩ (h l m)
    ·rfl)
 ·cases op <;> first | exact absurd (.inl rfl) hop | exact absurd (.inr rfl) hop | rfl
theorem run_binI {op:BinOp} {k k':IntKind} {n m:Int} {r:TV} (h:binT .num op (.int k n) (.int k' m)=some r) (t:TypeId) (w:World) (I:Nat→Nat→Prop) (μ:Mu) :
  ∃ v,(binOp op t (.int k n) (.int k' m)).run P w=.ok v w∧VR w I μ r v:=by
 simp only [binT] at h
 split at h
 ·rename_i hop
  simp only [Option.map_eq_some_iff] at h
  obtain ⟨q,hq,rfl⟩:=h
  simp only [shiftI] at hq
  split at hq
  ·cases hq
  ·rename_i hneg
   rcases hop with rfl | rfl
   ·simp only [Option.some.injEq] at hq;subst hq
    exact ⟨_,by simp only [binOp,Op.shift,hneg,if_false,Sem.run_pure],.int _ _ _⟩
   ·simp only [Option.some.injEq] at hq;subst hq
    exact ⟨_,by simp only [binOp,Op.shift,hneg,if_false,Sem.run_pure],.int _ _ _⟩
 ·rename_i hop
  split at h
  ·rename_i hk
   subst hk
   cases op <;> simp only [binI,bitsI,Option.some.injEq,Option.map_some,Option.map_eq_some_iff] at h
   case shl=>exact absurd (.inl rfl) hop
   case shr=>exact absurd (.inr rfl) hop
   case quo =>
    split at h
    ·cases h
    ·rename_i hm;simp only [Option.some.injEq] at h;subst h;exact ⟨_,by simp only [binOp,Op.intDiv,hm,if_false,Sem.run_pure,ne_eq,not_true_eq_false],.int _ _ _⟩
   case rem =>
    split at h
    ·cases h
    ·rename_i hm;simp only [Option.some.injEq] at h;subst h;exact ⟨_,by simp only [binOp,Op.intDiv,hm,if_false,Sem.run_pure,ne_eq,not_true_eq_false],.int _ _ _⟩
   all_goals subst h
   case add=>exact ⟨_,by simp only [binOp,Op.intArith,if_false,Sem.run_pure,ne_eq,not_true_eq_false],.int _ _ _⟩
   case sub=>exact ⟨_,by simp only [binOp,Op.intArith,if_false,Sem.run_pure,ne_eq,not_true_eq_false],.int _ _ _⟩
   case mul=>exact ⟨_,by simp only [binOp,Op.intArith,if_false,Sem.run_pure,ne_eq,not_true_eq_false],.int _ _ _⟩
   case and=>exact ⟨_,by simp only [binOp,Op.intBits,if_false,Sem.run_pure,ne_eq,not_true_eq_false],.int _ _ _⟩
   case or=>exact ⟨_,by simp only [binOp,Op.intBits,if_false,Sem.run_pure,ne_eq,not_true_eq_false],.int _ _ _⟩
   case xor=>exact ⟨_,by simp only [binOp,Op.intBits,if_false,Sem.run_pure,ne_eq,not_true_eq_false],.int _ _ _⟩
   case andNot=>exact ⟨_,by simp only [binOp,Op.intBits,if_false,Sem.run_pure,ne_eq,not_true_eq_false],.int _ _ _⟩
   case eql=>exact ⟨_,by simp only [binOp,Op.intCmp,if_false,Sem.run_pure,ne_eq,not_true_eq_false];rfl,.bool _ _⟩
   case neq=>exact ⟨_,by simp only [binOp,Op.intCmp,if_false,Sem.run_pure,ne_eq,not_true_eq_false];rfl,.bool _ _⟩
   all_goals exact ⟨_,by simp only [binOp,Op.intCmp,if_false,Sem.run_pure,ne_eq,not_true_eq_false],.bool _ _⟩
  ·cases h
theorem run_binS {op:BinOp} {x y:ByteArray} {r:TV} (h:binS op x.data.toList y.data.toList=some r) (t:TypeId) (w:World) (I:Nat→Nat→Prop) (μ:Mu) :
  ∃ v,(binOp op t (.string x) (.string y)).run P w=.ok v w∧VR w I μ r v:=by
 have hx:=ByteArray.toList_eq x
 have hy:=ByteArray.toList_eq y
 have hb:∀ a b:List UInt8,(a == b)=decide (a=b):=fun a b=>by rw [Bool.eq_iff_iff];simp
 cases op <;> simp only [binS,Option.some.injEq,reduceCtorEq] at h
 case add =>
  split at h
  ·rename_i hl
   simp only [Option.some.injEq] at h
   subst h
   refine ⟨.string (x++y),?_,?_⟩
   ·have:=run_string_add_sum (P:=P) w x y (by simpa using hl)
    simpa [binOp] using this
   ·rw [← bytes_append];exact .str _ _
  ·cases h
 all_goals subst h
 all_goals exact ⟨_,by simp only [binOp,Op.stringOp,hx,hy,hb,Sem.run_pure],.bool _ _⟩
end
section
variable {P:Program} {S:Sys} {o:Oper} {a:Act} {w:World} {I:Nat→Nat→Prop} {μ:Mu} {e:Env} {H:Heap} {base:Nat} {v:TV} {N:List Blk}
theorem TrX.const_inv {y:Operand} {v:TV} (h:TrX y (.c v)):(∃ c,y=.const c)∨∃ f,v=.fn f [] []:=by
 cases h with
 | const v' _ h=>exact .inl ⟨_,rfl⟩
 | func f=>exact .inr ⟨f,rfl⟩
theorem run_equal {t:TypeId} {cv iv:Value} {b:Bool} (h:∀ d,(Op.equalIn (d+1) t cv iv).run P w=.ok b w):(Op.equal t cv iv).run P w=.ok b w:=h 9999
theorem run_cmpNil {op:BinOp} {t:TypeId} {x y:Operand} {y':Opd} {ct:TV} {cv iv:Value} (ht:CmpTy P t y' .nil) (hy:TrX y y') (hv:VR w I μ ct cv) {it:TV} (hit:ev e y'=it) (hw:VR w I μ it iv) {b:Bool} (hb:cmpNil ct it=some b) :
  (eqGuard op t x y cv iv).run P w=.ok () w∧(binOp .eql t cv iv).run P w=.ok (.bool b) w∧(binOp .neq t cv iv).run P w=.ok (.bool (!b)) w:=by
 have fin:∀ (c:Value),y=.const c→(∀ l m,¬ (cv=.agg l∧iv=.agg m))→(binOp .eql t cv iv=do pure (.bool (← Op.equal t cv iv)))→(binOp .neq t cv iv=do pure (.bool (!(← Op.equal t cv iv))))→(∀ d,(Op.equalIn (d+1) t cv iv).run P w=.ok b w) →
   (eqGuard op t x y cv iv).run P w=.ok () w∧(binOp .eql t cv iv).run P w=.ok (.bool b) w∧(binOp .neq t cv iv).run P w=.ok (.bool (!b)) w:=by
  intro c hc hno h1 h2 heq
  refine ⟨run_eqGuard hno (fun _ _=>⟨c,hc⟩) w,?_,?_⟩
  ·rw [h1];simp [run_equal heq]
  ·rw [h2];simp [run_equal heq]
 cases ht with
 | ptr u h hy' =>
  subst hy'
  simp only [ev] at hit
  subst hit
  obtain ⟨c,hc⟩ | ⟨f,hf⟩:=hy.const_inv
  ·cases hw
   cases hv <;> simp only [cmpNil,Option.some.injEq,reduceCtorEq] at hb <;> subst hb
   all_goals exact fin c hc (by intro l m hh;cases hh.2) rfl rfl (fun d=>by simp [Op.equalIn,underlying,h])
  ·cases hf
 | func a' b' c' h hy' =>
  subst hy'
  simp only [ev] at hit
  subst hit
  obtain ⟨c,hc⟩ | ⟨f,hf⟩:=hy.const_inv
  ·cases hw
   cases hv <;> simp only [cmpNil,Option.some.injEq,reduceCtorEq] at hb <;> subst hb
   all_goals exact fin c hc (by intro l m hh;cases hh.2) rfl rfl (fun d=>by simp [Op.equalIn,underlying,h])
  ·cases hf
 | slice u h hy' =>
  subst hy'
  simp only [ev] at hit
  subst hit
  obtain ⟨c,hc⟩ | ⟨f,hf⟩:=hy.const_inv
  ·cases hw
   cases hv with
   | nils=>simp only [cmpNil,Option.some.injEq] at hb;subst hb;exact fin c hc (by intro l m hh;cases hh.2) rfl rfl (fun d=>by simp [Op.equalIn,underlying,h])
   | ne=>simp only [cmpNil,Option.some.injEq] at hb;subst hb;exact fin c hc (by intro l m hh;cases hh.2) rfl rfl (fun d=>by simp [Op.equalIn,underlying,h])
   | vs _ l ad cap sz bb off val hcap ha hsz hcc hvv =>
    cases l with
    | nil=>simp [cmpNil] at hb
    | cons x' l' =>
     simp only [cmpNil,Option.some.injEq] at hb;subst hb
     rw [ha (by simp)]
     rw [ha (by simp)] at fin
     exact fin c hc (by intro l m hh;cases hh.2) rfl rfl (fun d=>by simp [Op.equalIn,underlying,h])
   | hs _ id off len full loc ad cap hm ha hlen htop hf =>
    cases len with
    | zero=>simp [cmpNil] at hb
    | succ n =>
     simp only [cmpNil,Option.some.injEq] at hb;subst hb
     have ha':ad=some ⟨loc.blk,loc.off+off * loc.sz,none⟩:=by
      rcases ha with h0 | h0
      ·omega
      ·exact h0
     subst ha'
     exact fin c hc (by intro l m hh;cases hh.2) rfl rfl (fun d=>by simp [Op.equalIn,underlying,h])
   | _=>simp [cmpNil] at hb
  ·cases hf
 | iface u h hy' =>
  subst hy'
  simp only [ev] at hit
  subst hit
  obtain ⟨c,hc⟩ | ⟨f,hf⟩:=hy.const_inv
  ·cases hw
   cases hv <;> simp only [cmpNil,Option.some.injEq,reduceCtorEq] at hb <;> subst hb
   all_goals exact fin c hc (by intro l m hh;cases hh.2) rfl rfl (fun d=>by simp [Op.equalIn,underlying,h])
  ·cases hf
theorem binT_num {op:BinOp} {x y r:TV} (h:binT .num op x y=some r):∃ k n k' m,x=.int k n∧y=.int k' m:=by
 cases x with
 | int k n=>cases y with
  | int k' m=>exact ⟨_,_,_,_,rfl,rfl⟩
  | _=>cases h
 | _=>cases h
theorem binT_str {op:BinOp} {x y r:TV} (h:binT .str op x y=some r):∃ s s',x=.str s∧y=.str s':=by
 cases x with
 | str k=>cases y with
  | str k'=>exact ⟨_,_,rfl,rfl⟩
  | _=>cases h
 | _=>cases h
theorem binT_bool {op:BinOp} {x y r:TV} (h:binT .bool op x y=some r):∃ s s',x=.bool s∧y=.bool s':=by
 cases x with
 | bool k=>cases y with
  | bool k'=>exact ⟨_,_,rfl,rfl⟩
  | _=>cases h
 | _=>cases h
theorem binT_agg {ks:List Nat} {op:BinOp} {x y r:TV} (h:binT (.agg ks) op x y=some r):∃ l m b,x=.agg l∧y=.agg m∧aggEq ks l m=some b∧(op=.eql∧r=.bool b∨op=.neq∧r=.bool (!b)):=by
 cases x with
 | agg l=>cases y with
  | agg m =>
   simp only [binT] at h
   cases op <;> simp only [Option.map_eq_some_iff,reduceCtorEq] at h
   ·obtain ⟨b,h1,rfl⟩:=h;exact ⟨l,m,b,rfl,rfl,h1,.inl ⟨rfl,rfl⟩⟩
   ·obtain ⟨b,h1,rfl⟩:=h;exact ⟨l,m,b,rfl,rfl,h1,.inr ⟨rfl,rfl⟩⟩
  | _=>cases h
 | _=>cases h
theorem run_eqFields {w:World} {I:Nat→Nat→Prop} {μ:Mu} {xs ys:Array Value} (d:Nat):∀ (fs:List Field) (i:Nat) (ks:List Nat) (l m:List TV) (b:Bool),fldKs P i fs=some ks→aggEq ks l m=some b →
  (∀ (k:Nat) (t:TV),l[k]?=some t→∃ v,xs[i+k]?=some v∧VR w I μ t v)→(∀ (k:Nat) (t:TV),m[k]?=some t→∃ v,ys[i+k]?=some v∧VR w I μ t v) →
  (Op.eqFields (d+1) xs ys fs).run P w=.ok b w
 | [],i,ks,l,m,b,hk,he,hl,hm=>by
  simp only [fldKs,Option.some.injEq] at hk;subst hk
  cases l with
  | nil=>cases m with
   | nil=>simp only [aggEq,Option.some.injEq] at he;subst he;simp [Op.eqFields]
   | cons a m=>simp [aggEq] at he
  | cons a l=>simp [aggEq] at he
 | f::fs,i,ks,l,m,b,hk,he,hl,hm=>by
  simp only [fldKs] at hk
  split at hk
  case isFalse=>cases hk
  rename_i hf
  obtain ⟨hf1,hf2⟩:=hf
  have go:∀ (ks':List Nat) (t u:TV) (l' m':List TV) (c:Bool),fldKs P (i+1) fs=some ks'→l=t::l'→m=u::m'→P.plainKey f.type=true →
    (∀ v v',VR w I μ t v→VR w I μ u v'→(Op.equalIn (d+1) f.type v v').run P w=.ok c w)→(∃ r,aggEq ks' l' m'=some r∧b=(c && r))→(Op.eqFields (d+1) xs ys (f::fs)).run P w=.ok b w:=by
   rintro ks' t u l' m' c hk' rfl rfl hp heq ⟨r,hr,rfl⟩
   obtain ⟨v,hv1,hv2⟩:=hl 0 t rfl
   obtain ⟨v',hw1,hw2⟩:=hm 0 u rfl
   have ih:=run_eqFields d fs (i+1) ks' l' m' r hk' hr (fun k t hk=>by
    obtain ⟨v,h1,h2⟩:=hl (k+1) t (by simpa using hk);exact ⟨v,by rw [show i+1+k=i+(k+1) by omega];exact h1,h2⟩) (fun k t hk=>by
    obtain ⟨v,h1,h2⟩:=hm (k+1) t (by simpa using hk);exact ⟨v,by rw [show i+1+k=i+(k+1) by omega];exact h1,h2⟩)
   have e1:=run_part_plain (P:=P) (w:=w) hp (show xs[f.offset]?=some v by rw [hf1];simpa using hv1)
   have e2:=run_part_plain (P:=P) (w:=w) hp (show ys[f.offset]?=some v' by rw [hf1];simpa using hw1)
   simp only [Op.eqFields,hf2,ne_eq,not_false_eq_true,if_true,Sem.run_bind,e1,e2,heq v v' hv2 hw2,Result.andThen_ok]
   cases c
   ·simp
   ·simpa using ih
  split at hk
  ·rename_i q1 q2
   simp only [Option.some.injEq] at hk;subst hk
   cases l with
   | nil=>simp [aggEq] at he
   | cons t l'=>cases m with
    | nil=>simp [aggEq] at he
    | cons u m' =>
     cases t <;> cases u <;> simp only [aggEq,reduceCtorEq] at he
     split at he
     ·rename_i hkk;subst hkk
      simp only [Option.map_eq_some_iff] at he
      obtain ⟨r,h1,h2⟩:=he
      refine go _ _ _ _ _ _ q2 rfl rfl (by simp [Program.plainKey,q1]) (fun v v' hv hv'=>?_) ⟨r,h1,h2.symm⟩
      cases hv;cases hv'
      rw [run_equalIn_int w d _ _ _ _ _ q1];rfl
     ·cases he
  ·rename_i q1 q2
   simp only [Option.some.injEq] at hk;subst hk
   cases l with
   | nil=>simp [aggEq] at he
   | cons t l'=>cases m with
    | nil=>simp [aggEq] at he
    | cons u m' =>
     cases t <;> cases u <;> simp only [aggEq,reduceCtorEq] at he
     simp only [Option.map_eq_some_iff] at he
     obtain ⟨r,h1,h2⟩:=he
     refine go _ _ _ _ _ _ q2 rfl rfl (by simp [Program.plainKey,q1]) (fun v v' hv hv'=>?_) ⟨r,h1,h2.symm⟩
     cases hv;cases hv'
     rw [run_equalIn_string w d _ _ _ q1,ByteArray.toList_eq,ByteArray.toList_eq]
     congr 1
     rw [Bool.eq_iff_iff];simp
  ·rename_i q1 q2
   simp only [Option.some.injEq] at hk;subst hk
   cases l with
   | nil=>simp [aggEq] at he
   | cons t l'=>cases m with
    | nil=>simp [aggEq] at he
    | cons u m' =>
     cases t <;> cases u <;> simp only [aggEq,reduceCtorEq] at he
     simp only [Option.map_eq_some_iff] at he
     obtain ⟨r,h1,h2⟩:=he
     refine go _ _ _ _ _ _ q2 rfl rfl (by simp [Program.plainKey,q1]) (fun v v' hv hv'=>?_) ⟨r,h1,h2.symm⟩
     cases hv;cases hv'
     exact run_equalIn_bool w d _ _ _ q1
  ·cases hk
theorem opA_bin {bk:BK} {op:BinOp} {t u:TypeId} {x y:Operand} {x' y':Opd} (ho:o.op=.binOp op t x y u) (ht:CmpTy P t y' bk) (hx:TrX x x') (hy:TrX y y')
  (hr:HR w I μ (look H)) (he:ER w I μ e a.tmps) (h:opA S e H base (.bin bk op x' y')=some (v,N)):AOk P o a w I μ (look H) base v N:=by
 have hv:=hx.ok he
 have hw:=hy.ok he
 simp only [opA,Option.map_eq_some_iff,Prod.mk.injEq] at h
 obtain ⟨r,h,rfl,rfl⟩:=h
 have fin:∀ vv,(eqGuard op t x y (a.eval x) (a.eval y)).run P w=.ok () w→(binOp op t (a.eval x) (a.eval y)).run P w=.ok vv w→VR w I μ r vv→AOk P o a w I μ (look H) base r []:=fun vv hg hb hvr =>
  AOk.pure hr (by simp [execOp,ho,hg,hb]) hvr
 generalize hct:ev e x'=ct at h hv
 generalize hcv':a.eval x=cv at hv fin
 generalize hit:ev e y'=it at h hw
 generalize hiv':a.eval y=iv at hw fin
 cases bk with
 | num =>
  obtain ⟨k,n,k',m,rfl,rfl⟩:=binT_num h
  cases hv;cases hw
  obtain ⟨vv,h1,h2⟩:=run_binI (P:=P) h t w I μ
  exact fin vv (run_eqGuard (by intro l m hh;cases hh.1) (by intro hh;cases hh) w) h1 h2
 | str =>
  obtain ⟨s,s',rfl,rfl⟩:=binT_str h
  cases hv;cases hw
  obtain ⟨vv,h1,h2⟩:=run_binS (P:=P) h t w I μ
  exact fin vv (run_eqGuard (by intro l m hh;cases hh.1) (by intro hh;cases hh) w) h1 h2
 | bool =>
  obtain ⟨b,b',rfl,rfl⟩:=binT_bool h
  cases hv;cases hw
  cases ht with
  | bool hbt =>
   have heq:(Op.equal t (.bool b) (.bool b')).run P w=.ok (b == b') w:=run_equal (fun d=>by simp [Op.equalIn,underlying,hbt])
   have hg:=run_eqGuard (P:=P) (op:=op) (t:=t) (x:=x) (y:=y) (a:=.bool b) (b:=.bool b') (by intro l m hh;cases hh.1) (by intro hh;cases hh) w
   cases op <;> simp only [binT,Option.some.injEq,reduceCtorEq] at h <;> subst h
   ·exact fin (.bool (b == b')) hg (by simp [binOp,heq]) (.bool _ _)
   ·exact fin (.bool (!(b == b'))) hg (by simp [binOp,heq]) (.bool _ _)
 | agg ks =>
  obtain ⟨l,m,b,rfl,rfl,he2,hop⟩:=binT_agg h
  cases ht with
  | agg _ hu hs hg hk =>
   cases hv with
   | agg _ _ cs hn hvs=>cases hw with
    | agg _ _ ds hn2 hws =>
     have key:(Op.equalIn 10000 t (.agg cs) (.agg ds)).run P w=.ok b w:=by
      rw [run_equalIn_struct w 9999 t cs ds hu hs]
      exact run_eqFields 9998 _ 0 ks l m b hk he2 (fun k t hk=>by
       obtain ⟨v,hv⟩:∃ v,cs[k]?=some v:=⟨cs[k]'(by have:=(List.getElem?_eq_some_iff.1 hk).1;omega),by simp⟩
       exact ⟨v,by simpa using hv,hvs k t v hk hv⟩) (fun k t hk=>by
       obtain ⟨v,hv⟩:∃ v,ds[k]?=some v:=⟨ds[k]'(by have:=(List.getElem?_eq_some_iff.1 hk).1;omega),by simp⟩
       exact ⟨v,by simpa using hv,hws k t v hk hv⟩)
     have hgd:=run_eqGuard_agg (P:=P) w op t x y cs ds hg
     rcases hop with ⟨rfl,rfl⟩ | ⟨rfl,rfl⟩
     ·exact fin (.bool b) hgd (by rw [run_eql_struct,key];rfl) (.bool _ _)
     ·exact fin (.bool (!b)) hgd (by rw [run_neq_struct,key];rfl) (.bool _ _)
 | nil =>
  have hc:∃ b,cmpNil ct it=some b∧(op=.eql∧r=.bool b∨op=.neq∧r=.bool (!b)):=by
   cases op <;> simp only [binT,Option.map_eq_some_iff,reduceCtorEq] at h
   ·obtain ⟨b,h1,rfl⟩:=h;exact ⟨b,h1,.inl ⟨rfl,rfl⟩⟩
   ·obtain ⟨b,h1,rfl⟩:=h;exact ⟨b,h1,.inr ⟨rfl,rfl⟩⟩
  obtain ⟨b,hb,hop⟩:=hc
  obtain ⟨h1,h2,h3⟩:=run_cmpNil (op:=op) ht hy hv hit hw hb
  rcases hop with ⟨rfl,rfl⟩ | ⟨rfl,rfl⟩
  ·exact fin _ h1 h2 (.bool _ _)
  ·exact fin _ h1 h3 (.bool _ _)
theorem TrXs.toOption {lo:Option Operand} {lo':Option Opd} (h:TrXs lo.toList lo'.toList) {w:World} {I:Nat→Nat→Prop} {μ:Mu} {e:Env} {a:Act} (he:ER w I μ e a.tmps) {r:Option Int} (hr:intOf? e lo'=some r) :
  (r=none∧lo.map a.eval=none)∨∃ k n,r=some n∧lo.map a.eval=some (.int k n):=by
 cases lo with
 | none =>
  cases lo' with
  | none=>simp only [intOf?,Option.some.injEq] at hr;exact .inl ⟨hr.symm,rfl⟩
  | some y=>cases h
 | some x =>
  cases lo' with
  | none=>cases h
  | some y =>
   cases h with
   | cons hx hn =>
    have hv:=hx.ok he
    simp only [intOf?] at hr
    generalize hct:ev e y=ct at hr hv
    generalize hcv:a.eval x=cv at hv
    cases hv <;> simp only [Option.some.injEq,reduceCtorEq] at hr
    subst hr
    exact .inr ⟨_,_,rfl,by rw [Option.map_some,hcv]⟩
theorem run_bound {v:Option Value} {r:Option Int} (h:(r=none∧v=none)∨∃ k n,r=some n∧v=some (.int k n)) {top top' dflt m:Nat} (hb:bound r top dflt=some m) (ht:top≤top') :
  (r=none∧v=none∧m=dflt)∨∃ u i,r=some i∧v=some u∧m≤top∧∀ code,(Instr.sliceBound u top' code).run P w=.ok m w:=by
 rcases h with ⟨rfl,rfl⟩ | ⟨k,n,rfl,rfl⟩
 ·simp only [bound,Option.some.injEq] at hb;exact .inl ⟨rfl,rfl,hb.symm⟩
 ·simp only [bound] at hb
  split at hb
  ·rename_i hn
   simp only [Option.some.injEq] at hb
   refine .inr ⟨_,_,rfl,rfl,by omega,fun code=>?_⟩
   have h2:n≤(top':Int):=by omega
   simp [Instr.sliceBound,asIntOf,hn.1,h2,hb]
  ·cases hb
def OkB (r:Option Int) (v:Option Value):Prop:=(r=none∧v=none)∨∃ k n,r=some n∧v=some (.int k n)
theorem run_sliceBounds {lo hi mx:Option Int} {vlo vhi vmx:Option Value} (h1:OkB lo vlo) (h2:OkB hi vhi) (h3:OkB mx vmx) {n cap m h l:Nat} (hm:bound mx n n=some m) (hh:bound hi m n=some h) (hl:bound lo h 0=some l)
  (hlh:¬ (h < l∨(mx.isSome=true∧hi.isSome=false))) (hn:n≤cap) (isSlice:Bool) :
  (Instr.sliceBounds isSlice n cap vlo vhi vmx).run P w=.ok (l,h,if mx.isSome then m else cap) w:=by
 rcases run_bound (P:=P) (w:=w) h3 hm hn with ⟨rfl,rfl,rfl⟩ | ⟨u3,i3,rfl,rfl,hle3,r3⟩
 ·rcases run_bound (P:=P) (w:=w) h2 hh hn with ⟨rfl,rfl,rfl⟩ | ⟨u2,i2,rfl,rfl,hle2,r2⟩
  ·rcases run_bound (P:=P) (w:=w) h1 hl (Nat.le_refl _) with ⟨rfl,rfl,rfl⟩ | ⟨u1,i1,rfl,rfl,hle1,r1⟩
   ·simp [Instr.sliceBounds]
   ·simp [Instr.sliceBounds,r1]
  ·rcases run_bound (P:=P) (w:=w) h1 hl (Nat.le_refl _) with ⟨rfl,rfl,rfl⟩ | ⟨u1,i1,rfl,rfl,hle1,r1⟩
   ·simp [Instr.sliceBounds,r2]
   ·simp [Instr.sliceBounds,r1,r2]
 ·rcases run_bound (P:=P) (w:=w) h2 hh (Nat.le_refl _) with ⟨rfl,rfl,rfl⟩ | ⟨u2,i2,rfl,rfl,hle2,r2⟩
  ·exact absurd (.inr ⟨rfl,rfl⟩) hlh
  ·rcases run_bound (P:=P) (w:=w) h1 hl (Nat.le_refl _) with ⟨rfl,rfl,rfl⟩ | ⟨u1,i1,rfl,rfl,hle1,r1⟩
   ·simp [Instr.sliceBounds,r2,r3]
   ·simp [Instr.sliceBounds,r1,r2,r3]
theorem sliceT_inv {x:TV} {lo hi mx:Option Int} {r:TV} (h:sliceT x lo hi mx=some r):∃ n m h' l,lenT x=some n∧bound mx n n=some m∧bound hi m n=some h'∧bound lo h' 0=some l∧¬ (h' < l∨(mx.isSome=true∧hi.isSome=false)) ∧
  cutT x n m h' l mx.isSome=some r:=by
 unfold sliceT at h
 cases hl:lenT x with
 | none=>rw [hl] at h;cases h
 | some n =>
  rw [hl] at h
  simp only at h
  cases hm:bound mx n n with
  | none=>rw [hm] at h;cases h
  | some m =>
   rw [hm] at h
   simp only at h
   cases hh:bound hi m n with
   | none=>rw [hh] at h;cases h
   | some h' =>
    rw [hh] at h
    simp only at h
    cases hl':bound lo h' 0 with
    | none=>rw [hl'] at h;cases h
    | some l =>
     rw [hl'] at h
     simp only at h
     split at h
     ·cases h
     ·rename_i hn
      exact ⟨n,m,h',l,rfl,hm,hh,hl',hn,h⟩
theorem bound_le {r:Option Int} {top d m:Nat} (h:bound r top d=some m) (hd:d≤top):m≤top:=by
 unfold bound at h
 split at h
 ·simp only [Option.some.injEq] at h;omega
 ·split at h
  ·simp only [Option.some.injEq] at h;omega
  ·cases h
theorem opA_sliceS {t:TypeId} {x:Operand} {lo hi:Option Operand} {x':Opd} {lo' hi':Option Opd} (ho:o.op=.slice t x lo hi none) (ht:P.underlying t=some .string) (hx:TrX x x') (hlo:TrXs lo.toList lo'.toList) (hhi:TrXs hi.toList hi'.toList)
  (hr:HR w I μ (look H)) (he:ER w I μ e a.tmps) (h:opA S e H base (.sliceS x' lo' hi')=some (v,N)):AOk P o a w I μ (look H) base v N:=by
 have hv:=hx.ok he
 simp only [opA] at h
 split at h
 ·rename_i s l hh e0 e1 e2
  simp only [Option.map_eq_some_iff,Prod.mk.injEq] at h
  obtain ⟨r,hs,rfl,rfl⟩:=h
  have b1:=TrXs.toOption hlo he e1
  have b2:=TrXs.toOption hhi he e2
  obtain ⟨n,m,h',l',q1,q2,q3,q4,q5,q6⟩:=sliceT_inv hs
  rw [e0] at hv
  generalize hcv':a.eval x=cv at hv
  cases hv with
  | str _ s =>
   have hb:=run_sliceBounds (P:=P) (w:=w) (mx:=none) (vmx:=none) b1 b2 (.inl ⟨rfl,rfl⟩) q2 q3 q4 q5 (Nat.le_refl n) false
   simp only [lenT,Option.some.injEq] at q1
   have hn:n=s.size:=by rw [← q1];simp
   subst hn
   simp only [cutT,Option.isSome_none,Bool.false_eq_true,if_false,Option.some.injEq] at q6
   subst q6
   refine AOk.pure (vv:=.string (s.extract l' h')) hr ?_ ?_
   ·simp only [Option.isSome_none,Bool.false_eq_true,if_false] at hb
    simp only [execOp,ho,hcv',Instr.sliceAt,Instr.slice,Sem.run_bind,underlying,run_program,ht,Result.andThen_ok,Sem.run_pure,Option.map_none,Option.isSome_none,Bool.false_eq_true,if_false,hb]
   ·rw [← bytes_extract];exact .str _ _
 ·cases h
theorem run_sliceBoundsC {lo hi:Option Int} {vlo vhi:Option Value} (h1:OkB lo vlo) (h2:OkB hi vhi) {n cap h l:Nat} (hh:bound hi cap n=some h) (hl:bound lo h 0=some l) (hlh:¬ h < l) :
  (Instr.sliceBounds true n cap vlo vhi none).run P w=.ok (l,h,cap) w:=by
 rcases run_bound (P:=P) (w:=w) h2 hh (Nat.le_refl _) with ⟨rfl,rfl,rfl⟩ | ⟨u2,i2,rfl,rfl,hle2,r2⟩
 ·rcases run_bound (P:=P) (w:=w) h1 hl (Nat.le_refl _) with ⟨rfl,rfl,rfl⟩ | ⟨u1,i1,rfl,rfl,hle1,r1⟩
  ·simp [Instr.sliceBounds]
  ·simp [Instr.sliceBounds,r1]
 ·rcases run_bound (P:=P) (w:=w) h1 hl (Nat.le_refl _) with ⟨rfl,rfl,rfl⟩ | ⟨u1,i1,rfl,rfl,hle1,r1⟩
  ·simp [Instr.sliceBounds,r2]
  ·simp [Instr.sliceBounds,r1,r2]
theorem opA_sliceC {t el:TypeId} {i:TypeInfo} {x:Operand} {lo hi:Option Operand} {id off len cap:Nat} {l hh:Option Int} {r:TV} (ho:o.op=.slice t x lo hi none) (ht:P.underlying t=some (.slice el)) (hin:P.info? el=some i)
  (hr:HR w I μ (look H)) (hok:szBad H i.size (.hc id off len cap)=false) (hv:VR w I μ (.hc id off len cap) (a.eval x)) (b1:OkB l (lo.map a.eval)) (b2:OkB hh (hi.map a.eval)) (h:sliceC id off len cap l hh none=some r):AOk P o a w I μ (look H) base r []:=by
 unfold sliceC at h
 simp only at h
 cases q2:bound hh cap len with
 | none=>rw [q2] at h;cases h
 | some h' =>
  rw [q2] at h
  simp only at h
  cases q3:bound l h' 0 with
  | none=>rw [q3] at h;cases h
  | some l' =>
   rw [q3] at h
   simp only at h
   split at h
   ·cases h
   ·rename_i hlt
    simp only [Option.some.injEq] at h
    subst h
    generalize hcv':a.eval x=cv at hv
    cases hv with
    | hc _ _ _ _ _ loc ad hm ha hlen htop =>
     have hcap:h'≤cap:=by
      unfold bound at q2
      split at q2
      ·simp only [Option.some.injEq] at q2;omega
      ·split at q2
       ·simp only [Option.some.injEq] at q2;omega
       ·cases q2
     have hb:=run_sliceBoundsC (P:=P) (w:=w) b1 b2 q2 q3 hlt
     have hszi:loc.sz=i.size:=by
      simp only [szBad] at hok
      cases hl:H[id]? with
      | none=>rw [hl] at hok;simp at hok
      | some bk =>
       rw [hl] at hok
       cases bk with
       | dead=>simp at hok
       | live sz' L =>
        simp only [bne_eq_false_iff_eq] at hok
        obtain ⟨loc',c,ty,fr,k1,k2,k3⟩:=hr.live id _ L (look_live.2 hl)
        rw [hm] at k1
        cases k1
        rw [k3.hsz];exact hok
     refine AOk.pure hr (vv:=.slice (if cap=l' then ad else ad.map (·.add (l' * i.size))) (h' - l') (cap - l')) ?_ ?_
     ·simp only [execOp,ho,hcv',Instr.sliceAt,Instr.slice,Sem.run_bind,underlying,run_program,ht,Result.andThen_ok,Sem.run_pure,Option.map_none,hb,sizeOf,typeInfo,hin]
     ·refine .hc _ _ _ _ _ loc _ hm ?_ (by omega) ?_
      ·by_cases hM:cap=l'
       ·left;omega
       ·right
        rw [if_neg hM]
        rcases ha with h0 | h0
        ·omega
        ·rw [h0,Option.map_some,← hszi,addr_add _ rfl]
         rw [show loc.off+(off+l') * loc.sz=loc.off+off * loc.sz+l' * loc.sz by rw [Nat.add_mul];omega]
      ·have:(off+l'+(cap - l')) * loc.sz≤(off+cap) * loc.sz:=Nat.mul_le_mul_right _ (by omega)
       omega
theorem sliceA_inv {x:TV} {lo hi mx:Option Int} {r:TV} (h:sliceA x lo hi mx=some r):(∃ id off len cap,x=.hc id off len cap∧mx=none∧sliceC id off len cap lo hi none=some r)∨sliceT x lo hi mx=some r:=by
 unfold sliceA at h
 split at h
 ·cases mx with
  | none=>exact .inl ⟨_,_,_,_,rfl,rfl,h⟩
  | some m=>simp [sliceC] at h
 ·exact .inr h
theorem opA_slice {t el:TypeId} {i:TypeInfo} {x:Operand} {lo hi mx:Option Operand} {x':Opd} {lo' hi' mx':Option Opd} (ho:o.op=.slice t x lo hi mx) (ht:P.underlying t=some (.slice el)) (hin:P.info? el=some i) (hx:TrX x x') (hlo:TrXs lo.toList lo'.toList)
  (hhi:TrXs hi.toList hi'.toList) (hmx:TrXs mx.toList mx'.toList) (hr:HR w I μ (look H)) (he:ER w I μ e a.tmps) (h:opA S e H base (.slice i.size x' lo' hi' mx')=some (v,N)):AOk P o a w I μ (look H) base v N:=by
 have hv:=hx.ok he
 simp only [opA] at h
 split at h
 ·rename_i l hh mm e1 e2 e3
  split at h
  ·cases h
  ·rename_i hok
   simp only [Option.map_eq_some_iff,Prod.mk.injEq] at h
   obtain ⟨r,hs,rfl,rfl⟩:=h
   have b1:=TrXs.toOption hlo he e1
   have b2:=TrXs.toOption hhi he e2
   have b3:=TrXs.toOption hmx he e3
   rcases sliceA_inv hs with ⟨id,off,len,cap,hc1,hc2,hc3⟩ | hs
   ·rw [hc1] at hv hok
    subst hc2
    have hmx0:mx=none:=by
     rcases b3 with ⟨_,h0⟩ | ⟨k,n,h0,_⟩
     ·simpa using h0
     ·cases h0
    subst hmx0
    exact opA_sliceC ho ht hin hr (by simpa using hok) hv b1 b2 hc3
   obtain ⟨n,m,h',l',q1,q2,q3,q4,q5,q6⟩:=sliceT_inv hs
   have hmn:=bound_le q2 (Nat.le_refl n)
   have hhn:h'≤n:=by
    have:=bound_le q3 (d:=n)
    unfold bound at q3
    split at q3
    ·simp only [Option.some.injEq] at q3;omega
    ·split at q3
     ·simp only [Option.some.injEq] at q3;omega
     ·cases q3
   have hlh:l'≤h':=bound_le q4 (Nat.zero_le _)
   generalize hcv':a.eval x=cv at hv
   -- what the model does
   have run:∀ (ad:Option Addr) (len cap:Nat),cv=.slice ad len cap→len=n→len≤cap→∃ M,(M=if mm.isSome then m else cap) ∧
     (execOp a.eval o).run P w=.ok (.value (.slice (if M=l' then ad else ad.map (·.add (l' * i.size))) (h' - l') (M - l'))) w:=fun ad len cap hc hn hle=>by
    subst hc
    subst hn
    have hb:=run_sliceBounds (P:=P) (w:=w) b1 b2 b3 q2 q3 q4 q5 hle true
    refine ⟨_,rfl,?_⟩
    simp only [execOp,ho,hcv',Instr.sliceAt,Instr.slice,Sem.run_bind,underlying,run_program,ht,Result.andThen_ok,Sem.run_pure,hb,sizeOf,typeInfo,hin]
   have hhm:mm.isSome=true→h'≤m:=fun hmm=>by
    cases hh with
    | none=>exact absurd (.inr ⟨hmm,rfl⟩) q5
    | some hi0 =>
     simp only [bound] at q3
     split at q3
     ·simp only [Option.some.injEq] at q3;omega
     ·cases q3
   have fin:∀ (ad:Option Addr) (len cap:Nat),cv=.slice ad len cap→len=n→len≤cap →
     (∀ M,h'≤M→M≤cap→(mm.isSome=true→M=m)→(mm.isSome=false→M=cap)→VR w I μ r (.slice (if M=l' then ad else ad.map (·.add (l' * i.size))) (h' - l') (M - l')))→AOk P o a w I μ (look H) base r []:=fun ad len cap hc hn hle hvr=>by
    obtain ⟨M,hM,hrun⟩:=run ad len cap hc hn hle
    refine AOk.pure hr hrun (hvr M ?_ ?_ ?_ ?_)
    ·cases hmm:mm.isSome with
     | true=>rw [hM,if_pos hmm];exact hhm hmm
     | false=>rw [hM,if_neg (by rw [hmm];simp)];omega
    ·cases hmm:mm.isSome with
     | true=>rw [hM,if_pos hmm];omega
     | false=>rw [hM,if_neg (by rw [hmm];simp)];exact Nat.le_refl _
    ·intro hmm;rw [hM,if_pos hmm]
    ·intro hmm;rw [hM,if_neg (by rw [hmm];simp)]
   have empty:∀ (ad:Option Addr) (M:Nat),M=l'→h'=l'→VR w I μ .es (.slice (if M=l' then ad else ad.map (·.add (l' * i.size))) (h' - l') (M - l')):=fun ad M h1 h2=>by
    rw [if_pos h1,show h' - l'=0 by omega,show M - l'=0 by omega];exact .es _ _
   generalize hct:ev e x'=ct at hv q1 q6 hok
   cases hv with
   | es _ ad =>
    simp only [lenT,Option.some.injEq] at q1
    simp only [cutT,Option.some.injEq] at q6
    subst q6
    exact fin ad 0 0 rfl q1 (Nat.le_refl _) (fun M h1 h2 _ _=>empty ad M (by omega) (by omega))
   | nils =>
    simp only [lenT,Option.some.injEq] at q1
    simp only [cutT,Option.some.injEq] at q6
    subst q6
    exact fin none 0 0 rfl q1 (Nat.le_refl _) (fun M h1 h2 _ _=>empty none M (by omega) (by omega))
   | ne _ ad cap =>
    simp only [lenT,Option.some.injEq] at q1
    simp only [cutT,Option.some.injEq] at q6
    subst q6
    refine fin (some ad) 0 cap rfl q1 (Nat.zero_le _) (fun M h1 h2 _ _=>?_)
    rw [show h' - l'=([]:List (List TV)).length by simp;omega]
    exact .vs _ [] _ _ 0 0 0 (fun _ _=>undef) ⟨by simp,fun hh=>by split at hh <;> cases hh⟩ (fun h=>absurd rfl h) (fun _ h=>by simp at h) (fun i xs k t h=>by simp at h) (fun i xs k t h=>by simp at h)
   | vs _ L ad cap sz b off val hcap ha hsz hc hv =>
    simp only [lenT,Option.some.injEq] at q1
    refine fin ad L.length cap rfl q1 hcap.1 (fun M h1 h2 h3 h4=>?_)
    simp only [cutT] at q6
    split at q6
    ·rename_i hg
     simp only [Bool.and_eq_true,beq_iff_eq] at hg
     simp only [Option.some.injEq] at q6
     subst q6
     have:=h3 hg.1
     exact empty ad M (by omega) (by omega)
    ·simp only [Option.some.injEq] at q6
     subst q6
     have hlen:((L.take h').drop l').length=h' - l':=by simp;omega
     have key:∀ (i':Nat) (xs:List TV),((L.take h').drop l')[i']?=some xs→L[l'+i']?=some xs∧i' < h' - l':=fun i' xs hi=>by
      have hlt:i' < h' - l':=by rw [← hlen];exact (List.getElem?_eq_some_iff.1 hi).1
      rw [List.getElem?_drop,List.getElem?_take,if_pos (by omega)] at hi
      exact ⟨hi,hlt⟩
     have hszi:L ≠ []→sz=i.size:=fun hne=>by
      cases L with
      | nil=>exact absurd rfl hne
      | cons x0 xs0 =>
       simp only [szBad,Bool.not_eq_true',Bool.not_eq_false,List.all_eq_true,beq_iff_eq] at hok
       rw [← hok x0 (by simp)]
       exact (hsz x0 (by simp)).symm
     have:=VR.vs (w:=w) (I:=I) μ ((L.take h').drop l') (if M=l' then ad else ad.map (·.add (l' * i.size))) (M - l') sz b (off+l' * sz) (fun i' k=>val (l'+i') k)
      ⟨by rw [hlen];omega,fun hh=>by
       have had:ad=none:=by cases ad with | none=>rfl | some x=>(split at hh <;> cases hh)
       have:=hcap.2 had;omega⟩ (fun hne=>?_) (fun xs hx=>hsz xs (List.mem_of_mem_take (List.mem_of_mem_drop hx))) (fun i' xs k t hi hk=>?_) (fun i' xs k t hi hk=>hv _ _ _ _ (key i' xs hi).1 hk)
     ·rw [hlen] at this;exact this
     ·have hpos:0 < h' - l':=by
       rw [← hlen]
       exact List.length_pos_iff.2 hne
      have hL:L ≠ []:=by
       intro hh0
       rw [hh0] at hne
       simp at hne
      rw [if_neg (by omega),ha hL,hszi hL,Option.map_some,addr_add _ rfl]
     ·have:=hc _ _ _ _ (key i' xs hi).1 hk
      rw [show off+(l'+i') * sz+k=off+l' * sz+i' * sz+k by rw [Nat.add_mul];omega] at this
      exact this
   | hs _ id off len full loc ad cap hm ha hlen htop hf =>
    simp only [lenT,Option.some.injEq] at q1
    refine fin ad len cap rfl q1 hlen (fun M h1 h2 h3 h4=>?_)
    simp only [cutT] at q6
    split at q6
    ·rename_i hg
     simp only [Bool.and_eq_true,beq_iff_eq] at hg
     simp only [Option.some.injEq] at q6
     subst q6
     have:=h3 hg.1
     exact empty ad M (by omega) (by omega)
    ·simp only [Option.some.injEq] at q6
     subst q6
     have hszi:loc.sz=i.size:=by
      simp only [szBad] at hok
      cases hl:H[id]? with
      | none=>rw [hl] at hok;simp at hok
      | some bk =>
       rw [hl] at hok
       cases bk with
       | dead=>simp at hok
       | live sz' L =>
        simp only [bne_iff_ne,ne_eq,Decidable.not_not] at hok
        obtain ⟨loc',c,ty,fr,k1,k2,k3⟩:=hr.live id _ L (look_live.2 hl)
        rw [hm] at k1
        cases k1
        rw [k3.hsz];exact hok
     refine .hs _ _ _ _ _ loc _ _ hm ?_ (by omega) ?_ ?_
     ·by_cases hM:M=l'
      ·left;omega
      ·right
       rw [if_neg hM]
       rcases ha with h0 | h0
       ·omega
       ·rw [h0,Option.map_some,← hszi,addr_add _ rfl]
        rw [show loc.off+(off+l') * loc.sz=loc.off+off * loc.sz+l' * loc.sz by rw [Nat.add_mul];omega]
     ·have:(off+l'+(M - l')) * loc.sz≤(off+cap) * loc.sz:=Nat.mul_le_mul_right _ (by omega)
      omega
     ·intro hfull
      cases hmm:mm.isSome with
      | true =>
       rw [hmm] at hfull
       simp only [if_true,beq_iff_eq,Bool.and_eq_true] at hfull
       have:=h3 hmm
       exact ⟨by omega,(hf hfull.1).2⟩
      | false =>
       rw [hmm] at hfull
       simp only [Bool.false_eq_true,if_false,Bool.and_eq_true,beq_iff_eq] at hfull
       have h5:=(hf hfull.1).1
       have h6:=h4 hmm
       exact ⟨by omega,(hf hfull.1).2⟩
   | _=>simp [lenT,szBad] at q1 hok
 ·cases h
end
end Go.Proofs.TM
