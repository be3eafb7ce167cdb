import Derived.Test.YtlajjnljeebkkaaGreatDoorTTr
namespace Go.Proofs.TM
open Go
noncomputable def Rl {α:Type} (enc:α→List TV) (pre:α→Prop) (out:α→TV×List Blk):Rule:=fun ts =>
 open Classical in if h:∃ a,enc a=ts∧pre a then some (out h.choose) else none
theorem Rl_inv {α:Type} {enc:α→List TV} {pre:α→Prop} {out:α→TV×List Blk} {ts:List TV} {r:TV×List Blk} (h:Rl enc pre out ts=some r):∃ a,enc a=ts∧pre a∧r=out a:=by
 unfold Rl at h
 split at h
 ·rename_i hx
  cases h
  exact ⟨_,hx.choose_spec.1,hx.choose_spec.2,rfl⟩
 ·cases h
theorem Rl_app {α:Type} {enc:α→List TV} {pre:α→Prop} {out:α→TV×List Blk} (hinj:∀ a b,enc a=enc b→a=b) (a:α) (hp:pre a):Rl enc pre out (enc a)=some (out a):=by
 unfold Rl
 have hx:∃ b,enc b=enc a∧pre b:=⟨a,rfl,hp⟩
 rw [dif_pos hx,hinj _ _ hx.choose_spec.1]
def assoc {β:Type} (n:Nat):List (Nat×β)→Option β
 | []=>none
 | (k,v)::r=>if k=n then some v else assoc n r
def Sys.of (rs:List (Nat×Rule)) (fs:List (Nat×TFn)):Sys:=⟨fun n=>assoc n rs,fun n=>assoc n fs,fun _ _=>none,fun _=>none⟩
def RulesOk (P:Program):List (Nat×Rule)→Prop
 | []=>True
 | (n,F)::r=>RuleOk P n F∧RulesOk P r
def FnsOk (P:Program):List (Nat×TFn)→Prop
 | []=>True
 | (n,F)::r=>(FnOk P n F∧∀ m,pinsOk m F.code=true)∧FnsOk P r
theorem SysOk.of {P:Program} {rs:List (Nat×Rule)} {fs:List (Nat×TFn)} (hr:RulesOk P rs) (hf:FnsOk P fs):SysOk P (Sys.of rs fs):=by
 constructor
 ·intro f F h
  simp only [Sys.of] at h
  induction rs with
  | nil=>cases h
  | cons p rs ih =>
   obtain ⟨k,v⟩:=p
   simp only [assoc] at h
   split at h
   ·rename_i hk;cases h;exact hk ▸ hr.1
   ·exact ih hr.2 h
 ·intro f tf h
  simp only [Sys.of] at h
  induction fs with
  | nil=>cases h
  | cons p fs ih =>
   obtain ⟨k,v⟩:=p
   simp only [assoc] at h
   split at h
   ·rename_i hk;cases h;exact hk ▸ hf.1
   ·exact ih hf.2 h
 ·intro f tag F h
  cases h
 ·intro f sz h
  cases h
section
variable {P:Program} {α:Type} {enc:α→List TV} {pre:α→Prop} {out:α→TV×List Blk} {f:Nat} {tf:TFn} {rs:List (Nat×Rule)} {fs:List (Nat×TFn)}
def OutIs (r:Option (TV×Heap)) (p:TV→Heap→Prop):Prop:=match r with
 | some (v,H)=>p v H
 | none=>False
@[simp] theorem OutIs_some (v:TV) (H:Heap) (p:TV→Heap→Prop):OutIs (some (v,H)) p=p v H:=rfl
@[simp] theorem OutIs_none (p:TV→Heap→Prop):OutIs none p=False:=rfl
@[simp] theorem OutIs_ite {c:Prop} [Decidable c] (x y:Option (TV×Heap)) (p:TV→Heap→Prop):OutIs (if c then x else y) p=if c then OutIs x p else OutIs y p:=by split <;> rfl
def subB:List Blk→List Blk→Prop
 | [],[]=>True
 | b::N,c::H=>(b=.dead∨b=c)∧subB N H
 | _,_=>False
@[simp] theorem subB_nil:subB [] []=True:=rfl
@[simp] theorem subB_dead (c:Blk) (N H:List Blk):subB (.dead::N) (c::H)=subB N H:=by simp [subB]
@[simp] theorem subB_cons (b c:Blk) (N H:List Blk):subB (b::N) (c::H)=((b=.dead∨b=c)∧subB N H):=rfl
theorem subB.look {N H:List Blk} (h:subB N H):N.length=H.length∧∀ id sz l,look N id=.live sz l→look H id=.live sz l:=by
 induction N generalizing H with
 | nil=>cases H with
  | nil=>exact ⟨rfl,fun _ _ _ h=>h⟩
  | cons c H=>exact h.elim
 | cons b N ih=>cases H with
  | nil=>exact h.elim
  | cons c H =>
   obtain ⟨h1,h2⟩:=h
   obtain ⟨i1,i2⟩:=ih h2
   refine ⟨by simp [i1],fun id sz l hl=>?_⟩
   cases id with
   | zero =>
    unfold TM.look at hl ⊢
    rcases h1 with h1 | h1
    ·subst h1;simp at hl
    ·subst h1;simpa using hl
   | succ id=>exact i2 id sz l (by unfold TM.look at hl ⊢;simpa using hl)
theorem ok_alt (hr:RulesOk P rs) (hf:FnsOk P fs) (hfn:FnOk P f tf) (h:∀ a,pre a→∀ (w:World) (I:Nat→Nat→Prop) (vs:Array Value),VRL w I Mu.none (enc a) vs.toList→∃ (ts':List TV) (r':TV) (N':List Blk),VRL w I Mu.none ts' vs.toList∧callFn (X (Sys.of rs fs)) tf ts' []=some (r',N') ∧
   (∀ id,look (out a).2 id=look N' id)∧N'.length≤(out a).2.length∧∀ (w:World) (I:Nat→Nat→Prop) (μ:Mu) (v:Value),VR w I μ r' v→VR w I μ (out a).1 v):RuleOk P f (Rl enc pre out):=by
 have hS:=SysOk.of hr hf
 refine ⟨hfn.1,fun ts r N hF w I vs hI hvs=>?_⟩
 obtain ⟨a,rfl,hp,ho⟩:=Rl_inv hF
 obtain ⟨ts',r',N',h1,h2,h3,h4,h5⟩:=h a hp w I vs hvs
 rw [← ho] at h3 h4 h5
 refine (calls_of_X hS hfn (pinsOk_zero _) h2 (HR.empty hI) (fun _ _=>rfl) h1).mono fun en w' ⟨vv,I',μ',he,hs,hr,hdom,hv⟩=>?_
 have hF0:∀ b k,¬ Foot Mu.none (look []) b k:=fun b k ⟨id,sz,l,loc,h1,_⟩=>by cases h1
 have hl:look N=look N':=funext h3
 rw [hl]
 refine ⟨vv,I',μ',he,hs.ws.ext hF0,hs.up,fun b k h=>(hs.new b k h).imp (fun h=>h.resolve_right (hF0 b k)) (fun h=>h),hr,h5 _ _ _ _ hv,fun b k hf=>?_,fun id loc hm=>?_⟩
 ·rcases hs.foot b k hf with h1 | h1
  ·exact absurd h1 (hF0 b k)
  ·exact h1
 ·rcases Nat.lt_or_ge id N'.length with h1 | h1
  ·exact Nat.lt_of_lt_of_le h1 h4
  ·rw [hdom id h1] at hm;cases hm
end
@[congr] theorem thenOps_congr {α β:Type} {r r':Option (TV×α)} {k:TV→α→Option β} (h:r=r'):thenOps r k=thenOps r' k:=by rw [h]
@[congr] theorem thenSeq_congr {r r':Option Out} {k:Env→Heap→Option Out} (h:r=r'):thenSeq r k=thenSeq r' k:=by rw [h]
@[congr] theorem thenDraw_congr {r r':Option (Env×List (List Blk))} {k:Env→List (List Blk)→Option Out} (h:r=r'):thenDraw r k=thenDraw r' k:=by rw [h]
def guardOn {β:Type} (v:TV) (e:Env) (t:Nat) (w:Bool) (go skip:Env→Option β):Option β :=
 match v with
 | .bool b=>if b=true then (if w=true then go ((t,.bool true)::e) else skip ((t,.bool true)::e)) else (if w=true then skip ((t,.bool false)::e) else go ((t,.bool false)::e))
 | .tup []=>skip e
 | _=>none
@[congr] theorem guardOn_congr {β:Type} {v v':TV} {e:Env} {t:Nat} {w:Bool} {go skip:Env→Option β} (h:v=v'):guardOn v e t w go skip=guardOn v' e t w go skip:=by rw [h]
theorem guardOps_on {β:Type} (e:Env) (t:Nat) (w:Bool) (go skip:Env→Option β):guardOps e t w go skip=guardOn (get e t) e t w go skip:=by unfold guardOps guardOn;rfl
@[simp] theorem guardOn_true {β:Type} (e:Env) (t:Nat) (w:Bool) (go skip:Env→Option β):guardOn (.bool true) e t w go skip=if w=true then go ((t,.bool true)::e) else skip ((t,.bool true)::e):=by cases w <;> rfl
@[simp] theorem guardOn_false {β:Type} (e:Env) (t:Nat) (w:Bool) (go skip:Env→Option β):guardOn (.bool false) e t w go skip=if w=true then skip ((t,.bool false)::e) else go ((t,.bool false)::e):=by cases w <;> rfl
@[simp] theorem guardOn_tup {β:Type} (e:Env) (t:Nat) (w:Bool) (go skip:Env→Option β):guardOn (.tup []) e t w go skip=skip e:=rfl
theorem guardOn_bool {β:Type} (b:Bool) (e:Env) (t:Nat) (w:Bool) (go skip:Env→Option β):guardOn (.bool b) e t w go skip=if b=true then (if w=true then go ((t,.bool true)::e) else skip ((t,.bool true)::e)) else (if w=true then skip ((t,.bool false)::e) else go ((t,.bool false)::e)):=by cases b <;> cases w <;> rfl
attribute [simp] argEnv X_bad X_skip X_ret X_exit X_seq X_ops X_draw X_drawF runF_nil runF_fl runF_sp X_cond X_block X_turn runOps_nil runOps_cons runDraw_nil keepEnv topTmps opdTmps
@[simp] theorem runOps_g (rec:TC→Env→Heap→Option Out) (S:Sys) (d:Option Nat) (t:Nat) (w:Bool) (o:TOp) (r:List TO) (e:Env) (H:Heap) :
  runOps rec S (⟨d,some (t,w),o⟩::r) e H=guardOn (get e t) e t w (fun e=>thenOps (runOp rec S e H o) fun v H'=>runOps rec S r (put e d v) H') (fun e=>runOps rec S r (put e d (.tup [])) H):=by
 rw [← guardOps_on];rfl
def selL (anc:List Nat):Nat→Bool:=fun k=>anc.contains k
@[simp] theorem selL_at (anc:List Nat) (k:Nat):selL anc k=anc.contains k:=rfl
@[simp] theorem runDraw_c (S:Sys) (H:Heap) (anc:List Nat) (d:Option Nat) (o:TOp) (r:List (List Nat×TO)) (e:Env) (acc:List (List Blk)) :
  runDraw S H ((anc,⟨d,none,o⟩)::r) e acc=thenOps (opA S (keepEnv (topTmps o) e) (H++maskS (selL anc) 0 acc) (H++maskS (selL anc) 0 acc).length o) fun v N=>runDraw S H r (put e d v) (acc++[N]):=rfl
@[simp] theorem runDraw_g (S:Sys) (H:Heap) (anc:List Nat) (d:Option Nat) (t:Nat) (w:Bool) (o:TOp) (r:List (List Nat×TO)) (e:Env) (acc:List (List Blk)) :
  runDraw S H ((anc,⟨d,some (t,w),o⟩)::r) e acc=guardOn (get e t) e t w
   (fun e=>thenOps (opA S (keepEnv (topTmps o) e) (H++maskS (selL anc) 0 acc) (H++maskS (selL anc) 0 acc).length o) fun v N=>runDraw S H r (put e d v) (acc++[N]))
   (fun e=>runDraw S H r (put e d (.tup [])) (acc++[[]])):=by
 rw [← guardOps_on];rfl
@[congr] theorem thenF_congr {r r':Option (Env×Heap)} {k:Env→Heap→Option Out} (h:r=r'):thenF r k=thenF r' k:=by rw [h]
@[congr] theorem lateGo_congr {β:Type} {p p':Prop} {k:Option β} (h:p=p'):lateGo p k=lateGo p' k:=by rw [h]
@[simp] theorem runF_g (rec:TC→Env→Heap→Option Out) (S:Sys) (lt:List Nat) (d:Option Nat) (t:Nat) (w:Bool) (o:TOp) (r:List (Option (List Nat)×TO)) (fl:List (Nat×TOp)) (e:Env) (H:Heap) :
  runF rec S ((some lt,⟨d,some (t,w),o⟩)::r) fl e H=guardOn (get e t) e t w
   (fun e=>thenOps (runOp rec S (keepEnv (topTmps o) e) H o) fun v H'=>lateGo (lateF S fl (put e d v) H' lt) (runF rec S r fl (put e d v) H'))
   (fun e=>runF rec S r fl (put e d (.tup [])) H):=by
 rw [← guardOps_on];rfl
@[simp] theorem maskS_nil (sel:Nat→Bool) (k:Nat):maskS sel k []=[]:=rfl
@[simp] theorem maskS_e (sel:Nat→Bool) (k:Nat) (Ns:List (List Blk)):maskS sel k ([]::Ns)=maskS sel (k+1) Ns:=by simp [maskS]
@[simp] theorem maskS_b (sel:Nat→Bool) (k:Nat) (b:Blk) (N:List Blk) (Ns:List (List Blk)):maskS sel k ((b::N)::Ns)=(if sel k=true then b::N else List.replicate (N.length+1) .dead)++maskS sel (k+1) Ns:=rfl
@[simp] theorem ev_t (e:Env) (n:Nat):ev e (.t n)=get e n:=rfl
@[simp] theorem ev_c (e:Env) (v:TV):ev e (.c v)=v:=rfl
@[simp] theorem get_nil (i:Nat):get [] i=.undef:=rfl
@[simp] theorem get_cons (i j:Nat) (v:TV) (e:Env):get ((j,v)::e) i=if i=j then v else get e i:=rfl
@[simp] theorem put_some (e:Env) (d:Nat) (v:TV):put e (some d) v=(d,v)::e:=rfl
@[simp] theorem put_none (e:Env) (v:TV):put e none v=e:=rfl
def val0 (r:Option TV):Option (TV×List Blk):=r.map fun v=>(v,[])
def valH (H:Heap) (r:Option TV):Option (TV×Heap):=r.map fun v=>(v,H)
def blkH (H:Heap) (r:Option (TV×List Blk)):Option (TV×Heap):=r.map fun p=>(p.1,H++p.2)
@[simp] theorem val0_some (v:TV):val0 (some v)=some (v,[]):=rfl
@[simp] theorem val0_none:val0 none=none:=rfl
@[simp] theorem val0_ite {c:Prop} [Decidable c] (x y:Option TV):val0 (if c then x else y)=if c then val0 x else val0 y:=by split <;> rfl
@[simp] theorem valH_some (H:Heap) (v:TV):valH H (some v)=some (v,H):=rfl
@[simp] theorem valH_none (H:Heap):valH H none=none:=rfl
@[simp] theorem valH_ite {c:Prop} [Decidable c] (H:Heap) (x y:Option TV):valH H (if c then x else y)=if c then valH H x else valH H y:=by split <;> rfl
@[simp] theorem blkH_some (H:Heap) (v:TV):blkH H (some (v,[]))=some (v,H):=by simp [blkH]
@[simp] theorem blkH_some' (H:Heap) (v:TV) (b:Blk) (N:List Blk):blkH H (some (v,b::N))=some (v,H++b::N):=rfl
@[simp] theorem blkH_none (H:Heap):blkH H none=none:=rfl
@[simp] theorem blkH_ite {c:Prop} [Decidable c] (H:Heap) (x y:Option (TV×List Blk)):blkH H (if c then x else y)=if c then blkH H x else blkH H y:=by split <;> rfl
theorem blkH_val0 (H:Heap) (r:Option TV):blkH H (val0 r)=valH H r:=by cases r <;> simp [blkH,val0,valH]
section
variable (rec:TC→Env→Heap→Option Out) (S:Sys) (e:Env) (H:Heap) (b:Nat)
theorem sA_val {o:TOp} {r:Option TV} (h1:∀ b,opA S e H b o=val0 r) (h2:runOp rec S e H o=(opA S e H H.length o).map fun p=>(p.1,H++p.2)):runOp rec S e H o=valH H r:=by
 rw [h2,h1];exact blkH_val0 H r
@[simp] theorem sA_mv (x:Opd):opA S e H b (.mv x)=some (ev e x,[]):=rfl
@[simp] theorem sR_mv (x:Opd):runOp rec S e H (.mv x)=some (ev e x,H):=by simp [runOp]
def pickV (c x y:TV):Option TV:=match c with | .bool t=>some (if t then x else y) | _=>none
@[simp] theorem pickV_bool (t:Bool) (x y:TV):pickV (.bool t) x y=some (if t=true then x else y):=rfl
@[simp] theorem sA_pick (c x y:Opd):opA S e H b (.pick c x y)=val0 (pickV (ev e c) (ev e x) (ev e y)):=by simp only [opA,pickV];generalize ev e c=v;cases v <;> rfl
@[simp] theorem sR_pick (c x y:Opd):runOp rec S e H (.pick c x y)=valH H (pickV (ev e c) (ev e x) (ev e y)):=sA_val _ _ _ _ (fun b=>sA_pick S e H b c x y) rfl
@[simp] theorem sA_alloc (z:List TV):opA S e H b (.alloc z)=if z.all plain then some (.ptr b 0 0,[.live z.length [z]]) else none:=rfl
@[simp] theorem sR_alloc (z:List TV):runOp rec S e H (.alloc z)=blkH H (if z.all plain then some (.ptr H.length 0 0,[.live z.length [z]]) else none):=rfl
def boxV (b:Nat) (v:Option (List TV)):Option (TV×List Blk):=match v with | some cs=>some (.ptr b 0 0,[.live cs.length [cs]]) | none=>none
@[simp] theorem boxV_some (b:Nat) (cs:List TV):boxV b (some cs)=some (.ptr b 0 0,[.live cs.length [cs]]):=rfl
@[simp] theorem sA_box (x:Opd):opA S e H b (.box x)=boxV b (cellsOf (ev e x)):=rfl
@[simp] theorem sR_box (x:Opd):runOp rec S e H (.box x)=blkH H (boxV H.length (cellsOf (ev e x))):=rfl
@[simp] theorem cellsOf_agg (l:List TV):cellsOf (.agg l)=some l:=rfl
@[simp] theorem cellsOf_int (k:IntKind) (n:Int):cellsOf (.int k n)=some [.int k n]:=rfl
@[simp] theorem cellsOf_bool (n:Bool):cellsOf (.bool n)=some [.bool n]:=rfl
@[simp] theorem cellsOf_str (n:List UInt8):cellsOf (.str n)=some [.str n]:=rfl
@[simp] theorem cellsOf_vs (l:List (List TV)):cellsOf (.vs l)=some [.vs l]:=rfl
@[simp] theorem cellsOf_hs (i o n:Nat) (f:Bool):cellsOf (.hs i o n f)=some [.hs i o n f]:=rfl
@[simp] theorem cellsOf_es:cellsOf .es=some [.es]:=rfl
@[simp] theorem cellsOf_nils:cellsOf .nils=some [.nils]:=rfl
@[simp] theorem cellsOf_ptr (i j k:Nat):cellsOf (.ptr i j k)=some [.ptr i j k]:=rfl
@[simp] theorem cellsOf_vp (l:List TV):cellsOf (.vp l)=some [.vp l]:=rfl
@[simp] theorem cellsOf_fn (f:Nat) (x y:List TV):cellsOf (.fn f x y)=some [.fn f x y]:=rfl
@[simp] theorem plain_agg (l:List TV):plain (.agg l)=false:=rfl
@[simp] theorem plain_int (k:IntKind) (n:Int):plain (.int k n)=true:=rfl
@[simp] theorem plain_bool (n:Bool):plain (.bool n)=true:=rfl
@[simp] theorem plain_str (n:List UInt8):plain (.str n)=true:=rfl
@[simp] theorem plain_vs (l:List (List TV)):plain (.vs l)=true:=rfl
@[simp] theorem plain_hs (i o n:Nat) (f:Bool):plain (.hs i o n f)=true:=rfl
@[simp] theorem plain_es:plain .es=true:=rfl
@[simp] theorem plain_nils:plain .nils=true:=rfl
@[simp] theorem plain_nilp:plain .nilp=true:=rfl
@[simp] theorem plain_ptr (i j k:Nat):plain (.ptr i j k)=true:=rfl
@[simp] theorem plain_vp (l:List TV):plain (.vp l)=true:=rfl
def cellsB (v:Option Blk) (i j:Nat):Option (List TV):=match v with | some (.live _ l)=>(l[i]?).map (·.drop j) | _=>none
@[simp] theorem cellsB_live (sz:Nat) (l:List (List TV)) (i j:Nat):cellsB (some (.live sz l)) i j=(l[i]?).map (·.drop j):=rfl
@[simp] theorem cellsAt_ptr (id i j:Nat):cellsAt H (.ptr id i j)=cellsB H[id]? i j:=rfl
@[simp] theorem cellsAt_vp (cs:List TV):cellsAt H (.vp cs)=some cs:=rfl
def packV (n:Option Nat) (v:Option (List TV)):Option TV:=match v with | some cs=>packCells n cs | none=>none
@[simp] theorem packV_none (c:TV) (cs:List TV):packV none (some (c::cs))=some c:=rfl
@[simp] theorem packV_some (n:Nat) (cs:List TV):packV (some n) (some cs)=if n≤cs.length then some (.agg (cs.take n)) else none:=rfl
@[simp] theorem packV_no (n:Option Nat):packV n none=none:=rfl
@[simp] theorem sA_load (n:Option Nat) (x:Opd):opA S e H b (.load n x)=val0 (packV n (cellsAt H (ev e x))):=by
 simp only [opA,packV];split <;> simp [val0, *]
@[simp] theorem sR_load (n:Option Nat) (x:Opd):runOp rec S e H (.load n x)=valH H (packV n (cellsAt H (ev e x))):=sA_val _ _ _ _ (fun b=>sA_load S e H b n x) rfl
def nilV (v:TV):Option TV:=match v with | .ptr id i j=>some (.ptr id i j) | .vp cs=>some (.vp cs) | .fn f a b=>some (.fn f a b) | _=>none
@[simp] theorem nilV_ptr (id i j:Nat):nilV (.ptr id i j)=some (.ptr id i j):=rfl
@[simp] theorem nilV_vp (cs:List TV):nilV (.vp cs)=some (.vp cs):=rfl
@[simp] theorem nilV_fn (f:Nat) (x y:List TV):nilV (.fn f x y)=some (.fn f x y):=rfl
@[simp] theorem sA_nilchk (x:Opd):opA S e H b (.nilchk x)=val0 (nilV (ev e x)):=by simp only [opA,nilV];generalize ev e x=v;cases v <;> rfl
@[simp] theorem sR_nilchk (x:Opd):runOp rec S e H (.nilchk x)=valH H (nilV (ev e x)):=sA_val _ _ _ _ (fun b=>sA_nilchk S e H b x) rfl
@[simp] theorem sA_bin (k:BK) (o:BinOp) (x y:Opd):opA S e H b (.bin k o x y)=val0 (binT k o (ev e x) (ev e y)):=rfl
@[simp] theorem sR_bin (k:BK) (o:BinOp) (x y:Opd):runOp rec S e H (.bin k o x y)=valH H (binT k o (ev e x) (ev e y)):=sA_val _ _ _ _ (fun b=>sA_bin S e H b k o x y) rfl
@[simp] theorem sA_un (o:UnOp) (x:Opd):opA S e H b (.un o x)=val0 (unT o (ev e x)):=rfl
@[simp] theorem sR_un (o:UnOp) (x:Opd):runOp rec S e H (.un o x)=valH H (unT o (ev e x)):=sA_val _ _ _ _ (fun b=>sA_un S e H b o x) rfl
def toIntV (k:IntKind) (v:TV):Option TV:=match v with | .int _ n=>some (.int k (k.wrap n)) | _=>none
@[simp] theorem toIntV_int (k k':IntKind) (n:Int):toIntV k (.int k' n)=some (.int k (k.wrap n)):=rfl
@[simp] theorem sA_toInt (k:IntKind) (x:Opd):opA S e H b (.conv (.toInt k) x)=val0 (toIntV k (ev e x)):=by simp only [opA,toIntV];generalize ev e x=v;cases v <;> rfl
@[simp] theorem sR_toInt (k:IntKind) (x:Opd):runOp rec S e H (.conv (.toInt k) x)=valH H (toIntV k (ev e x)):=sA_val _ _ _ _ (fun b=>sA_toInt S e H b k x) rfl
def sameV (v:TV):Option TV:=match v with | .str n=>some (.str n) | _=>none
@[simp] theorem sameV_str (n:List UInt8):sameV (.str n)=some (.str n):=rfl
@[simp] theorem sA_same (x:Opd):opA S e H b (.conv .same x)=val0 (sameV (ev e x)):=by simp only [opA,sameV];generalize ev e x=v;cases v <;> rfl
@[simp] theorem sR_same (x:Opd):runOp rec S e H (.conv .same x)=valH H (sameV (ev e x)):=sA_val _ _ _ _ (fun b=>sA_same S e H b x) rfl
def strV (v:Option (List (List TV))):Option TV:=match v with | some l=>(allSome (l.map toByte)).map .str | none=>none
@[simp] theorem strV_some (l:List (List TV)):strV (some l)=(allSome (l.map toByte)).map .str:=rfl
@[simp] theorem sA_toStr (x:Opd):opA S e H b (.conv .toStr x)=if isStr (ev e x)=true then none else val0 (strV (elems H (ev e x))):=by
 simp only [opA,strV]
 split
 ·rfl
 ·split <;> simp [val0,Function.comp_def, *]
@[simp] theorem sR_toStr (x:Opd):runOp rec S e H (.conv .toStr x)=if isStr (ev e x)=true then none else valH H (strV (elems H (ev e x))):=by
 rw [sA_val rec S e H (r:=if isStr (ev e x)=true then none else strV (elems H (ev e x))) (fun b=>by rw [sA_toStr];split <;> rfl) rfl]
 split <;> rfl
@[simp] theorem isStr_hs (i o n:Nat) (f:Bool):isStr (.hs i o n f)=false:=rfl
@[simp] theorem isStr_vs (l:List (List TV)):isStr (.vs l)=false:=rfl
@[simp] theorem isStr_es:isStr .es=false:=rfl
def bytesV (b:Nat) (v:TV):Option (TV×List Blk):=match v with | .str s=>if s.length≤maxRow then some (.hs b 0 s.length false,[.live 1 (s.map fun x=>[.int .u8 x.toNat])]) else none | _=>none
theorem bytesV_str (b:Nat) (s:List UInt8):bytesV b (.str s)=if s.length≤maxRow then some (.hs b 0 s.length false,[.live 1 (s.map fun x=>[.int .u8 x.toNat])]) else none:=rfl
@[simp] theorem sA_toBytes (x:Opd):opA S e H b (.conv .toBytes x)=bytesV b (ev e x):=rfl
@[simp] theorem sR_toBytes (x:Opd):runOp rec S e H (.conv .toBytes x)=blkH H (bytesV H.length (ev e x)):=rfl
@[simp] theorem sA_mkfn (f:Nat) (x y:List Opd):opA S e H b (.mkfn f x y)=some (.fn f (x.map (ev e)) (y.map (ev e)),[]):=rfl
@[simp] theorem sR_mkfn (f:Nat) (x y:List Opd):runOp rec S e H (.mkfn f x y)=some (.fn f (x.map (ev e)) (y.map (ev e)),H):=by simp [runOp]
def faddrV (off:Nat) (v:TV):Option TV:=match v with | .ptr id i j=>some (.ptr id i (j+off)) | .vp cs=>some (.vp (cs.drop off)) | _=>none
@[simp] theorem faddrV_ptr (off id i j:Nat):faddrV off (.ptr id i j)=some (.ptr id i (j+off)):=rfl
@[simp] theorem faddrV_vp (off:Nat) (cs:List TV):faddrV off (.vp cs)=some (.vp (cs.drop off)):=rfl
@[simp] theorem sA_faddr (off:Nat) (x:Opd):opA S e H b (.faddr off x)=val0 (faddrV off (ev e x)):=by simp only [opA,faddrV];generalize ev e x=v;cases v <;> rfl
@[simp] theorem sR_faddr (off:Nat) (x:Opd):runOp rec S e H (.faddr off x)=valH H (faddrV off (ev e x)):=sA_val _ _ _ _ (fun b=>sA_faddr S e H b off x) rfl
def rowV (sz:Nat) (v:Option (List TV)):Option TV:=match v with | some xs=>if xs.length=sz then some (.vp xs) else none | none=>none
@[simp] theorem rowV_some (sz:Nat) (xs:List TV):rowV sz (some xs)=if xs.length=sz then some (.vp xs) else none:=rfl
def rowB (sz:Nat) (v:Option Blk) (p:TV):Option TV:=match v with | some (.live sz' _)=>if sz'=sz then some p else none | _=>none
@[simp] theorem rowB_live (sz sz':Nat) (l:List (List TV)) (p:TV):rowB sz (some (.live sz' l)) p=if sz'=sz then some p else none:=rfl
def iaddrV (H:Heap) (sz:Nat) (v i:TV):Option TV:=match v,i with
 | .vs l,.int _ n=>if 0≤n then rowV sz l[n.toNat]? else none
 | .hs id off len _,.int _ n=>if 0≤n∧n < (len:Int) then rowB sz H[id]? (.ptr id (off+n.toNat) 0) else none
 | _,_=>none
@[simp] theorem iaddrV_vs (sz:Nat) (l:List (List TV)) (k:IntKind) (n:Int):iaddrV H sz (.vs l) (.int k n)=if 0≤n then rowV sz l[n.toNat]? else none:=rfl
@[simp] theorem iaddrV_hs (sz id off len:Nat) (f:Bool) (k:IntKind) (n:Int):iaddrV H sz (.hs id off len f) (.int k n)=if 0≤n∧n < (len:Int) then rowB sz H[id]? (.ptr id (off+n.toNat) 0) else none:=rfl
@[simp] theorem sA_iaddr (sz:Nat) (x i:Opd):opA S e H b (.iaddr sz x i)=val0 (iaddrV H sz (ev e x) (ev e i)):=by
 simp only [opA,iaddrV]
 generalize ev e x=v
 generalize ev e i=j
 cases v <;> cases j <;> try rfl
 case vs.int l k n =>
  simp only []
  by_cases h:0≤n
  ·rw [if_pos h,if_pos h]
   unfold rowV
   cases l[n.toNat]? with
   | none=>rfl
   | some xs=>simp only [];split <;> rfl
  ·rw [if_neg h,if_neg h];rfl
 case hs.int id off len full k n =>
  simp only []
  by_cases h:0≤n∧n < (len:Int)
  ·rw [if_pos h,if_pos h]
   unfold rowB
   cases H[id]? with
   | none=>rfl
   | some bl =>
    cases bl with
    | dead=>rfl
    | live sz' l=>simp only [];split <;> rfl
  ·rw [if_neg h,if_neg h];rfl
@[simp] theorem sR_iaddr (sz:Nat) (x i:Opd):runOp rec S e H (.iaddr sz x i)=valH H (iaddrV H sz (ev e x) (ev e i)):=sA_val _ _ _ _ (fun b=>sA_iaddr S e H b sz x i) rfl
def indexV (x i:TV):Option TV:=match x,i with | .str s,.int _ n=>if 0≤n then (s[n.toNat]?).map (fun b=>.int .u8 b.toNat) else none | _,_=>none
@[simp] theorem indexV_str (s:List UInt8) (k:IntKind) (n:Int):indexV (.str s) (.int k n)=if 0≤n then (s[n.toNat]?).map (fun b=>.int .u8 b.toNat) else none:=rfl
@[simp] theorem sA_index (x i:Opd):opA S e H b (.index x i)=val0 (indexV (ev e x) (ev e i)):=by
 simp only [opA,indexV]
 generalize ev e x=v
 generalize ev e i=j
 cases v <;> cases j <;> try rfl
 case str.int s k n =>
  simp only []
  by_cases h:0≤n
  ·rw [if_pos h,if_pos h];cases s[n.toNat]? <;> rfl
  ·rw [if_neg h,if_neg h];rfl
@[simp] theorem strsOf_nil:strsOf []=some []:=rfl
@[simp] theorem strsOf_str (s:List UInt8) (l:List TV):strsOf (.str s::l)=(strsOf l).map (s::·):=rfl
def indexAV (n:Nat) (x i:TV):Option TV:=match x,i with | .agg l,.int _ k=>(strsOf l).bind fun ls=>if 0≤k∧k < (n:Int) then (ls[k.toNat]?).map .str else none | _,_=>none
@[simp] theorem indexAV_agg (n:Nat) (l:List TV) (k:IntKind) (i:Int):indexAV n (.agg l) (.int k i)=(strsOf l).bind fun ls=>if 0≤i∧i < (n:Int) then (ls[i.toNat]?).map .str else none:=rfl
@[simp] theorem sA_indexA (n:Nat) (x i:Opd):opA S e H b (.indexA n x i)=val0 (indexAV n (ev e x) (ev e i)):=by
 simp only [opA,indexAV]
 generalize ev e x=v
 generalize ev e i=j
 cases v <;> cases j <;> try rfl
 case agg.int l k m =>
  simp only []
  cases strsOf l with
  | none=>rfl
  | some ls =>
   simp only [Option.bind_some]
   by_cases h:0≤m∧m < (n:Int)
   ·rw [if_pos h,if_pos h];cases ls[m.toNat]? <;> rfl
   ·rw [if_neg h,if_neg h];rfl
@[simp] theorem sR_indexA (n:Nat) (x i:Opd):runOp rec S e H (.indexA n x i)=valH H (indexAV n (ev e x) (ev e i)):=sA_val _ _ _ _ (fun b=>sA_indexA S e H b n x i) rfl
@[simp] theorem sR_index (x i:Opd):runOp rec S e H (.index x i)=valH H (indexV (ev e x) (ev e i)):=sA_val _ _ _ _ (fun b=>sA_index S e H b x i) rfl
def extV (i:Nat) (x:TV):Option TV:=match x with | .tup l=>l[i]? | _=>none
@[simp] theorem extV_tup (i:Nat) (l:List TV):extV i (.tup l)=l[i]?:=rfl
@[simp] theorem sA_ext (x:Opd) (i:Nat):opA S e H b (.ext x i)=val0 (extV i (ev e x)):=by simp only [opA,extV];generalize ev e x=v;cases v <;> rfl
@[simp] theorem sR_ext (x:Opd) (i:Nat):runOp rec S e H (.ext x i)=valH H (extV i (ev e x)):=sA_val _ _ _ _ (fun b=>sA_ext S e H b x i) rfl
def lenV (s:Bool) (x:TV):Option TV:=match s,x with
 | false,.nb=>some (.int .i64 0)
 | false,.hb _ n _=>some (.int .i64 (n:Int))
 | true,.str s=>some (.int .i64 (s.length:Int))
 | false,.vs l=>some (.int .i64 (l.length:Int))
 | false,.hs _ _ n _=>some (.int .i64 (n:Int))
 | false,.hc _ _ n _=>some (.int .i64 (n:Int))
 | false,.es | false,.nils | false,.ne=>some (.int .i64 0)
 | _,_=>none
theorem sA_allocB (T:Nat):opA S e H b (.allocB T)=some (.ptr b 0 0,[.live 2 [[.bself b T,.nb]],.dead]):=rfl
theorem sR_allocB (T:Nat):runOp rec S e H (.allocB T)=some (.ptr H.length 0 0,H++[.live 2 [[.bself H.length T,.nb]],.dead]):=rfl
def sdataV (x:TV):Option TV:=match x with
 | .hb id _ T=>some (.bd id T)
 | .nb=>some .nilp
 | _=>none
@[simp] theorem sA_sdata (x:Opd):opA S e H b (.sdata x)=val0 (sdataV (ev e x)):=by simp only [opA,sdataV];generalize ev e x=v;cases v <;> rfl
@[simp] theorem sR_sdata (x:Opd):runOp rec S e H (.sdata x)=valH H (sdataV (ev e x)):=sA_val _ _ _ _ (fun b=>sA_sdata S e H b x) rfl
@[simp] theorem sR_ustr (T:Nat) (p n:Opd):runOp rec S e H (.ustr T p n)=ustrM H T (ev e p) (ev e n):=rfl
@[simp] theorem lenV_str (s:List UInt8):lenV true (.str s)=some (.int .i64 (s.length:Int)):=rfl
@[simp] theorem lenV_vs (l:List (List TV)):lenV false (.vs l)=some (.int .i64 (l.length:Int)):=rfl
@[simp] theorem lenV_hs (i o n:Nat) (f:Bool):lenV false (.hs i o n f)=some (.int .i64 (n:Int)):=rfl
@[simp] theorem lenV_hc (i o n c:Nat):lenV false (.hc i o n c)=some (.int .i64 (n:Int)):=rfl
@[simp] theorem lenV_es:lenV false .es=some (.int .i64 0):=rfl
@[simp] theorem lenV_nils:lenV false .nils=some (.int .i64 0):=rfl
@[simp] theorem lenV_nb:lenV false .nb=some (.int .i64 0):=rfl
@[simp] theorem lenV_hb (i n T:Nat):lenV false (.hb i n T)=some (.int .i64 (n:Int)):=rfl
@[simp] theorem lenV_ne:lenV false .ne=some (.int .i64 0):=rfl
@[simp] theorem sA_len (s:Bool) (x:Opd):opA S e H b (.len s x)=val0 (lenV s (ev e x)):=by simp only [opA,lenV];generalize ev e x=v;cases s <;> cases v <;> rfl
@[simp] theorem sR_len (s:Bool) (x:Opd):runOp rec S e H (.len s x)=valH H (lenV s (ev e x)):=sA_val _ _ _ _ (fun b=>sA_len S e H b s x) rfl
@[simp] theorem sA_build (z:List TV) (ps:List (Nat×Nat×Opd)):opA S e H b (.build z ps)=val0 ((fillT z (ps.map fun p=>(p.1,p.2.1,ev e p.2.2))).map .agg):=by
 simp only [opA];split <;> simp [val0, *]
@[simp] theorem sR_build (z:List TV) (ps:List (Nat×Nat×Opd)):runOp rec S e H (.build z ps)=valH H ((fillT z (ps.map fun p=>(p.1,p.2.1,ev e p.2.2))).map .agg):=sA_val _ _ _ _ (fun b=>sA_build S e H b z ps) rfl
@[simp] theorem fillT_nil (cells:List TV):fillT cells []=some cells:=rfl
def fillC (cells:List TV) (off size:Nat) (v:Option (List TV)) (k:List TV→Option (List TV)):Option (List TV) :=
 match v with | some cs=>if cs.length=size∧off+size≤cells.length then k (splice cells off cs) else none | none=>none
@[simp] theorem fillC_some (cells:List TV) (off size:Nat) (cs:List TV) (k:List TV→Option (List TV)):fillC cells off size (some cs) k=if cs.length=size∧off+size≤cells.length then k (splice cells off cs) else none:=rfl
@[simp] theorem fillT_cons (cells:List TV) (off size:Nat) (v:TV) (r:List (Nat×Nat×TV)):fillT cells ((off,size,v)::r)=fillC cells off size (cellsOf v) fun c=>fillT c r:=by
 simp only [fillT,fillC];split <;> simp [*]
@[simp] theorem sR_bslice (z:List TV) (n:Nat) (ps:List (Nat×Opd)):runOp rec S e H (.bslice z n ps)=blkH H (opA S e H H.length (.bslice z n ps)):=rfl
@[simp] theorem sR_mkslice (bs:Nat) (z:List TV) (n c:Opd):runOp rec S e H (.mkslice bs z n c)=blkH H (opA S e H H.length (.mkslice bs z n c)):=rfl
def mksliceV (b bs:Nat) (z:List TV) (n c:TV):Option (TV×List Blk):=match n,c with
 | .int _ n,.int _ c=>if 0≤n∧n=c∧c.toNat * bs≤maxRow∧c.toNat≤maxRow∧0 < z.length∧z.all plain then some (.hs b 0 n.toNat true,[.live z.length (List.replicate n.toNat (z.map unnil))]) else none
 | _,_=>none
@[simp] theorem mksliceV_int (b bs:Nat) (z:List TV) (k k':IntKind) (n c:Int):mksliceV b bs z (.int k n) (.int k' c)=if 0≤n∧n=c∧c.toNat * bs≤maxRow∧c.toNat≤maxRow∧0 < z.length∧z.all plain then some (.hs b 0 n.toNat true,[.live z.length (List.replicate n.toNat (z.map unnil))]) else none:=rfl
@[simp] theorem sA_mkslice (bs:Nat) (z:List TV) (n c:Opd):opA S e H b (.mkslice bs z n c)=mksliceV b bs z (ev e n) (ev e c):=by simp only [opA,mksliceV];generalize ev e n=v;generalize ev e c=u;cases v <;> cases u <;> rfl
@[simp] theorem sR_store (n:Nat) (x y:Opd):runOp rec S e H (.store n x y)=(storeT H n (ev e x) (ev e y)).map fun H'=>(.tup [],H'):=rfl
def storeB (H:Heap) (n id i j:Nat) (cs:List TV) (v:Option Blk):Option Heap:=match v with
 | some (.live sz l)=>match l[i]? with
  | some xs=>if j+n≤xs.length then some (H.set id (.live sz (l.set i (splice xs j cs)))) else none
  | none=>none
 | _=>none
def storeR (H:Heap) (n id i j:Nat) (cs:List TV) (sz:Nat) (l:List (List TV)) (v:Option (List TV)):Option Heap:=match v with
 | some xs=>if j+n≤xs.length then some (H.set id (.live sz (l.set i (splice xs j cs)))) else none
 | none=>none
@[simp] theorem storeB_live (n id i j sz:Nat) (cs:List TV) (l:List (List TV)):storeB H n id i j cs (some (.live sz l))=storeR H n id i j cs sz l l[i]?:=rfl
@[simp] theorem storeR_some (n id i j sz:Nat) (cs xs:List TV) (l:List (List TV)):storeR H n id i j cs sz l (some xs)=if j+n≤xs.length then some (H.set id (.live sz (l.set i (splice xs j cs)))) else none:=rfl
def storeC (H:Heap) (n id i j:Nat) (v:Option (List TV)):Option Heap:=match v with
 | some cs=>if cs.length=n∧cs.all plain then storeB H n id i j cs H[id]? else none
 | none=>none
@[simp] theorem storeC_some (n id i j:Nat) (cs:List TV):storeC H n id i j (some cs)=if cs.length=n∧cs.all plain then storeB H n id i j cs H[id]? else none:=rfl
@[simp] theorem storeT_ptr (n id i j:Nat) (x:TV):storeT H n (.ptr id i j) x=storeC H n id i j (cellsOf x):=by
 cases hc:cellsOf x with
 | none=>simp only [storeT,hc,storeC]
 | some cs =>
  simp only [storeT,hc,storeC]
  rfl
def retR (base:Nat) (vs:List TV) (r:Option (TV×List Blk)):Option (TV×List Blk):=match r with
 | some (r,N)=>if vs.all (noId 4) || (clean 2 r && N.all cleanB) then some (shift base 2 r,N.map (shiftB base)) else none
 | none=>none
@[simp] theorem retR_some (base:Nat) (vs:List TV) (r:TV) (N:List Blk):retR base vs (some (r,N))=if vs.all (noId 4) || (clean 2 r && N.all cleanB) then some (shift base 2 r,N.map (shiftB base)) else none:=rfl
def ruleV (H:Heap) (base:Nat) (vs:List TV) (F:Option Rule):Option (TV×List Blk):=match F with
 | some F=>retR base vs (F (vs.map (reify H 4)))
 | none=>none
@[simp] theorem ruleV_some (base:Nat) (vs:List TV) (F:Rule):ruleV H base vs (some F)=retR base vs (F (vs.map (reify H 4))):=rfl
theorem callRule_eq (base f:Nat) (vs:List TV):callRule S H base f vs=ruleV H base vs (S.rule f):=by
 unfold callRule ruleV retR
 split
 ·split <;> simp [*]
 ·simp [*]
@[simp] theorem sA_call (f:Nat) (as:List Opd):opA S e H b (.call f as)=ruleV H b (as.map (ev e)) (S.rule f):=callRule_eq S H b f _
def fnV (rec:TC→Env→Heap→Option Out) (S:Sys) (H:Heap) (f:Nat) (vs:List TV) (tf:Option TFn):Option (TV×Heap):=match tf with
 | some tf=>callFn rec tf vs H
 | none=>blkH H (ruleV H H.length vs (S.rule f))
@[simp] theorem fnV_some (f:Nat) (vs:List TV) (tf:TFn):fnV rec S H f vs (some tf)=callFn rec tf vs H:=rfl
@[simp] theorem fnV_none (f:Nat) (vs:List TV):fnV rec S H f vs none=blkH H (ruleV H H.length vs (S.rule f)):=rfl
@[simp] theorem sR_call (f:Nat) (as:List Opd):runOp rec S e H (.call f as)=fnV rec S H f (as.map (ev e)) (S.fn f):=by
 simp only [runOp,fnV]
 split
 ·simp [*]
 ·rename_i h;simp only [h];rw [sA_call];rfl
def callvV (rec:TC→Env→Heap→Option Out) (S:Sys) (H:Heap) (f:TV) (vs:List TV):Option (TV×Heap):=match f with
 | .fn g a b=>fnV rec S H g (a++vs++b) (S.fn g)
 | _=>none
@[simp] theorem callvV_fn (g:Nat) (x y vs:List TV):callvV rec S H (.fn g x y) vs=fnV rec S H g (x++vs++y) (S.fn g):=rfl
@[simp] theorem sR_callv (f:Opd) (as:List Opd):runOp rec S e H (.callv f as)=callvV rec S H (ev e f) (as.map (ev e)):=by
 simp only [runOp,callvV]
 generalize ev e f=v
 cases v <;> try rfl
 all_goals simp only [fnV]
 all_goals (split <;> simp only [callRule_eq, *] <;> rfl)
end
section
variable (k:IntKind) (x y:Int)
theorem wrapCm1:IntKind.i64.wrap (-1)=-1:=by decide
theorem wrapC0:IntKind.i64.wrap 0=0:=by decide
theorem wrapC1:IntKind.i64.wrap 1=1:=by decide
theorem wrapC2:IntKind.i64.wrap 2=2:=by decide
theorem wrapC3:IntKind.i64.wrap 3=3:=by decide
theorem wrapC4:IntKind.i64.wrap 4=4:=by decide
theorem wrapC5:IntKind.i64.wrap 5=5:=by decide
theorem wrapC6:IntKind.i64.wrap 6=6:=by decide
theorem wrapC7:IntKind.i64.wrap 7=7:=by decide
theorem wrapC8:IntKind.i64.wrap 8=8:=by decide
theorem wrapC9:IntKind.i64.wrap 9=9:=by decide
theorem wrapC10:IntKind.i64.wrap 10=10:=by decide
theorem wrapC11:IntKind.i64.wrap 11=11:=by decide
theorem wrapC12:IntKind.i64.wrap 12=12:=by decide
theorem wrapC13:IntKind.i64.wrap 13=13:=by decide
theorem wrapC14:IntKind.i64.wrap 14=14:=by decide
theorem wrapC15:IntKind.i64.wrap 15=15:=by decide
theorem wrapC16:IntKind.i64.wrap 16=16:=by decide
@[simp] theorem bin_aggE (ks:List Nat) (l m:List TV):binT (.agg ks) .eql (.agg l) (.agg m)=(aggEq ks l m).map .bool:=rfl
@[simp] theorem bin_aggN (ks:List Nat) (l m:List TV):binT (.agg ks) .neq (.agg l) (.agg m)=(aggEq ks l m).map fun b=>.bool (!b):=rfl
@[simp] theorem aggEq_nil:aggEq [] [] []=some true:=rfl
@[simp] theorem aggEq_int (ks:List Nat) (k:IntKind) (a b:Int) (l m:List TV):aggEq (0::ks) (.int k a::l) (.int k b::m)=(aggEq ks l m).map (decide (a=b) && ·):=by simp [aggEq]
@[simp] theorem aggEq_str (ks:List Nat) (a b:List UInt8) (l m:List TV):aggEq (1::ks) (.str a::l) (.str b::m)=(aggEq ks l m).map (decide (a=b) && ·):=rfl
@[simp] theorem aggEq_bool (ks:List Nat) (a b:Bool) (l m:List TV):aggEq (2::ks) (.bool a::l) (.bool b::m)=(aggEq ks l m).map ((a == b) && ·):=rfl
@[simp] theorem bin_add:binT .num .add (.int k x) (.int k y)=some (.int k (k.wrap (x+y))):=by simp [binT,binI]
@[simp] theorem bin_sub:binT .num .sub (.int k x) (.int k y)=some (.int k (k.wrap (x - y))):=by simp [binT,binI]
@[simp] theorem bin_mul:binT .num .mul (.int k x) (.int k y)=some (.int k (k.wrap (x * y))):=by simp [binT,binI]
@[simp] theorem bin_quo:binT .num .quo (.int k x) (.int k y)=if y=0 then none else some (.int k (k.wrap (x.tdiv y))):=by simp [binT,binI]
@[simp] theorem bin_rem:binT .num .rem (.int k x) (.int k y)=if y=0 then none else some (.int k (x.tmod y)):=by simp [binT,binI]
@[simp] theorem bin_eql:binT .num .eql (.int k x) (.int k y)=some (.bool (decide (x=y))):=by simp [binT,binI]
@[simp] theorem bin_neq:binT .num .neq (.int k x) (.int k y)=some (.bool (!decide (x=y))):=by simp [binT,binI]
@[simp] theorem bin_lss:binT .num .lss (.int k x) (.int k y)=some (.bool (decide (x < y))):=by simp [binT,binI]
@[simp] theorem bin_leq:binT .num .leq (.int k x) (.int k y)=some (.bool (decide (x≤y))):=by simp [binT,binI]
@[simp] theorem bin_gtr:binT .num .gtr (.int k x) (.int k y)=some (.bool (decide (x > y))):=by simp [binT,binI]
@[simp] theorem bin_geq:binT .num .geq (.int k x) (.int k y)=some (.bool (decide (x ≥ y))):=by simp [binT,binI]
@[simp] theorem bin_shl (k':IntKind):binT .num .shl (.int k x) (.int k' y)=(shiftI .shl k x y).map (.int k):=by simp [binT]
@[simp] theorem bin_shr (k':IntKind):binT .num .shr (.int k x) (.int k' y)=(shiftI .shr k x y).map (.int k):=by simp [binT]
@[simp] theorem bin_and:binT .num .and (.int k x) (.int k y)=(bitsI .and k x y).map (.int k):=by simp [binT,binI]
@[simp] theorem bin_or:binT .num .or (.int k x) (.int k y)=(bitsI .or k x y).map (.int k):=by simp [binT,binI]
@[simp] theorem bin_andNot:binT .num .andNot (.int k x) (.int k y)=(bitsI .andNot k x y).map (.int k):=by simp [binT,binI]
@[simp] theorem bin_xor:binT .num .xor (.int k x) (.int k y)=(bitsI .xor k x y).map (.int k):=by simp [binT,binI]
@[simp] theorem un_neg:unT .neg (.int k x)=some (.int k (k.wrap (0 - x))):=rfl
@[simp] theorem un_not (b:Bool):unT .not (.bool b)=some (.bool (!b)):=rfl
@[simp] theorem bin_beql (a b:Bool):binT .bool .eql (.bool a) (.bool b)=some (.bool (a == b)):=rfl
@[simp] theorem bin_bneq (a b:Bool):binT .bool .neq (.bool a) (.bool b)=some (.bool (!(a == b))):=rfl
variable (s t:List UInt8)
@[simp] theorem bin_sadd:binT .str .add (.str s) (.str t)=if s.length+t.length≤9223372036854775807 then some (.str (s++t)) else none:=rfl
@[simp] theorem bin_seql:binT .str .eql (.str s) (.str t)=some (.bool (decide (s=t))):=rfl
@[simp] theorem bin_sneq:binT .str .neq (.str s) (.str t)=some (.bool (!decide (s=t))):=rfl
@[simp] theorem bin_slss:binT .str .lss (.str s) (.str t)=some (.bool (Op.bytesLess s t)):=rfl
@[simp] theorem bin_sleq:binT .str .leq (.str s) (.str t)=some (.bool (Op.bytesLess s t || decide (s=t))):=rfl
@[simp] theorem bin_sgtr:binT .str .gtr (.str s) (.str t)=some (.bool (!(Op.bytesLess s t || decide (s=t)))):=rfl
@[simp] theorem bin_sgeq:binT .str .geq (.str s) (.str t)=some (.bool (!Op.bytesLess s t)):=rfl
@[simp] theorem bin_neql (a b:TV):binT .nil .eql a b=(cmpNil a b).map .bool:=by cases a <;> cases b <;> rfl
@[simp] theorem bin_nneq (a b:TV):binT .nil .neq a b=(cmpNil a b).map fun b=>.bool (!b):=by cases a <;> cases b <;> rfl
end
def condV (v:TV) (x y:Option Out):Option Out:=match v with | .bool t=>if t then x else y | _=>none
@[congr] theorem condV_congr {v v':TV} {x y:Option Out} (h:v=v'):condV v x y=condV v' x y:=by rw [h]
theorem X_condV (S:Sys) (c:Opd) (a b:TC) (e:Env) (H:Heap):X S (.cond c a b) e H=condV (ev e c) (X S a e H) (X S b e H):=X_cond S c a b e H
attribute [-simp] X_cond
attribute [simp] X_condV
@[simp] theorem condV_bool (t:Bool) (x y:Option Out):condV (.bool t) x y=if t=true then x else y:=rfl
@[simp] theorem results_one (e:Env) (H:Heap) (t:Nat):results e H [.t t]=some (get e t):=rfl
@[simp] theorem results_none (e:Env) (H:Heap):results e H []=some (.tup []):=rfl
@[simp] theorem results_cell (e:Env) (H:Heap) (t:Nat) (n:Option Nat):results e H [.cell t n]=packV n (cellsAt H (get e t)):=by
 simp only [results,List.map_cons,List.map_nil,resOf,packV]
 cases cellsAt H (get e t) with
 | none=>rfl
 | some cs=>simp only [];cases packCells n cs <;> rfl
def pairV (a b:Option TV):Option TV:=match a,b with | some a,some b=>some (.tup [a,b]) | _,_=>none
@[simp] theorem pairV_some (a b:TV):pairV (some a) (some b)=some (.tup [a,b]):=rfl
@[simp] theorem resOf_t (e:Env) (H:Heap) (t:Nat):resOf e H (.t t)=some (get e t):=rfl
@[simp] theorem resOf_cell (e:Env) (H:Heap) (t:Nat) (n:Option Nat):resOf e H (.cell t n)=packV n (cellsAt H (get e t)):=by
 simp only [resOf,packV]
 cases cellsAt H (get e t) <;> rfl
@[simp] theorem results_2 (e:Env) (H:Heap) (a b:TRes):results e H [a,b]=pairV (resOf e H a) (resOf e H b):=by
 simp only [results,List.map_cons,List.map_nil,pairV]
 cases resOf e H a <;> cases resOf e H b <;> rfl
def tripV (a b c:Option TV):Option TV:=match a,b,c with | some a,some b,some c=>some (.tup [a,b,c]) | _,_,_=>none
@[simp] theorem tripV_some (a b c:TV):tripV (some a) (some b) (some c)=some (.tup [a,b,c]):=rfl
@[simp] theorem results_3 (e:Env) (H:Heap) (a b c:TRes):results e H [a,b,c]=tripV (resOf e H a) (resOf e H b) (resOf e H c):=by
 simp only [results,List.map_cons,List.map_nil,tripV]
 cases resOf e H a <;> cases resOf e H b <;> cases resOf e H c <;> rfl
def quadV (a b c d:Option TV):Option TV:=match a,b,c,d with | some a,some b,some c,some d=>some (.tup [a,b,c,d]) | _,_,_,_=>none
@[simp] theorem quadV_some (a b c d:TV):quadV (some a) (some b) (some c) (some d)=some (.tup [a,b,c,d]):=rfl
@[simp] theorem results_4 (e:Env) (H:Heap) (a b c d:TRes):results e H [a,b,c,d]=quadV (resOf e H a) (resOf e H b) (resOf e H c) (resOf e H d):=by
 simp only [results,List.map_cons,List.map_nil,quadV]
 cases resOf e H a <;> cases resOf e H b <;> cases resOf e H c <;> cases resOf e H d <;> rfl
@[simp] theorem of_rule (rs:List (Nat×Rule)) (fs:List (Nat×TFn)) (n:Nat):(Sys.of rs fs).rule n=assoc n rs:=rfl
@[simp] theorem of_fn (rs:List (Nat×Rule)) (fs:List (Nat×TFn)) (n:Nat):(Sys.of rs fs).fn n=assoc n fs:=rfl
@[simp] theorem assoc_nil {β:Type} (n:Nat):assoc n ([]:List (Nat×β))=none:=rfl
@[simp] theorem assoc_cons {β:Type} (n k:Nat) (v:β) (r:List (Nat×β)):assoc n ((k,v)::r)=if k=n then some v else assoc n r:=rfl
def After {σ:Type} (J:σ→Env→Heap→Prop) (R:σ→Out→Prop) (m:σ→Nat) (s:σ):Option Out→Prop
 | some (.nrm,e',H')=>∃ s',m s' < m s∧J s' e' H'∧∀ r,R s' r→R s r
 | some o=>R s o
 | none=>False
section
variable {σ:Type} (J:σ→Env→Heap→Prop) (R:σ→Out→Prop) (m:σ→Nat) (s:σ)
@[simp] theorem After_nrm (e:Env) (H:Heap):After J R m s (some (.nrm,e,H))=∃ s',m s' < m s∧J s' e H∧∀ r,R s' r→R s r:=rfl
@[simp] theorem After_ret (e:Env) (H:Heap):After J R m s (some (.ret,e,H))=R s (.ret,e,H):=rfl
@[simp] theorem After_ext (id:Nat) (e:Env) (H:Heap):After J R m s (some (.ext id,e,H))=R s (.ext id,e,H):=rfl
@[simp] theorem After_none:After J R m s none=False:=rfl
@[simp] theorem After_ite {c:Prop} [Decidable c] (x y:Option Out):After J R m s (if c then x else y)=if c then After J R m s x else After J R m s y:=by split <;> rfl
end
def foldO {σ α:Type} (f:σ→α→Option σ):σ→List α→Option σ
 | s,[]=>some s
 | s,x::l=>match f s x with
  | some s'=>foldO f s' l
  | none=>none
@[simp] theorem foldO_nil {σ α:Type} (f:σ→α→Option σ) (s:σ):foldO f s []=some s:=rfl
def Round {σ:Type} (J:Nat→σ→Env→Heap→Prop) (B:Out→Prop) (i:Nat) (s':Option σ):Option Out→Prop
 | some (.nrm,e,H)=>match s' with
  | some s'=>J (i+1) s' e H
  | none=>False
 | some (.ret,e,H)=>s'=none∧B (.ret,e,H)
 | _=>False
section
variable {σ:Type} (J:Nat→σ→Env→Heap→Prop) (B:Out→Prop) (i:Nat) (s:σ) (o:Option σ) (e:Env) (H:Heap)
@[simp] theorem Round_nrm:Round J B i (some s) (some (.nrm,e,H))=J (i+1) s e H:=rfl
@[simp] theorem Round_nrm':Round J B i none (some (.nrm,e,H))=False:=rfl
@[simp] theorem Round_ret:Round J B i o (some (.ret,e,H))=(o=none∧B (.ret,e,H)):=rfl
@[simp] theorem Round_ext (id:Nat):Round J B i o (some (.ext id,e,H))=False:=rfl
@[simp] theorem Round_none:Round J B i o none=False:=rfl
end
def Done (J:Env→Heap→Prop) (id:Nat):Option Out→Prop
 | some (.ext id',e,H)=>id'=id∧J e H
 | _=>False
section
variable (J:Env→Heap→Prop) (id:Nat) (e:Env) (H:Heap)
@[simp] theorem Done_ext (id':Nat):Done J id (some (.ext id',e,H))=(id'=id∧J e H):=rfl
@[simp] theorem Done_nrm:Done J id (some (.nrm,e,H))=False:=rfl
@[simp] theorem Done_ret:Done J id (some (.ret,e,H))=False:=rfl
@[simp] theorem Done_none:Done J id none=False:=rfl
theorem Done.inv {J:Env→Heap→Prop} {id:Nat} {r:Option Out} (h:Done J id r):∃ e H,r=some (.ext id,e,H)∧J e H:=by
 unfold Done at h
 split at h
 ·obtain ⟨rfl,h⟩:=h;exact ⟨_,_,rfl,h⟩
 ·exact h.elim
end
def Folded {σ α:Type} (l:List α) (f:σ→α→Option σ) (J:Nat→σ→Env→Heap→Prop) (B:σ→α→Out→Prop) (id:Nat) (s:σ) (r:Option Out):Prop :=
 match foldO f s l with
 | some s'=>∃ e' H',r=some (.ext id,e',H')∧J l.length s' e' H'
 | none=>∃ i s' x o,l[i]?=some x∧foldO f s (l.take i)=some s'∧f s' x=none∧r=some o∧B s' x o
theorem Folded.yes {σ α:Type} {l:List α} {f:σ→α→Option σ} {J:Nat→σ→Env→Heap→Prop} {B:σ→α→Out→Prop} {id:Nat} {s s':σ} {r:Option Out} (h:Folded l f J B id s r) (hs:foldO f s l=some s'):∃ e' H',r=some (.ext id,e',H')∧J l.length s' e' H':=by
 unfold Folded at h;rw [hs] at h;exact h
theorem Folded.no {σ α:Type} {l:List α} {f:σ→α→Option σ} {J:Nat→σ→Env→Heap→Prop} {B:σ→α→Out→Prop} {id:Nat} {s:σ} {r:Option Out} (h:Folded l f J B id s r) (hs:foldO f s l=none):∃ i s' x o,l[i]?=some x∧foldO f s (l.take i)=some s'∧f s' x=none∧r=some o∧B s' x o:=by
 unfold Folded at h;rw [hs] at h;exact h
theorem wrap_i64 {n:Int} (h1:-9223372036854775808≤n) (h2:n≤9223372036854775807):IntKind.i64.wrap n=n:=by
 simp [IntKind.wrap,IntKind.bits,IntKind.signed]
 omega
end Go.Proofs.TM
