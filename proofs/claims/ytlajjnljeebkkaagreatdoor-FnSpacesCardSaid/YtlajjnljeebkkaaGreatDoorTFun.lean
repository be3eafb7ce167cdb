import Derived.Test.YtlajjnljeebkkaaGreatDoorTSim
namespace Go.Proofs.TM
open Go
abbrev Str:=List UInt8
structure Bt where
 v:UInt8
 deriving DecidableEq,Inhabited
class Cel (α:Type) where
 enc:α→List TV
 dec:List TV→α
 sz:Nat
 size:∀ a,(enc a).length=sz
 back:∀ a,dec (enc a)=a
 plain:∀ a,(enc a).all plain=true
 reify:∀ H d a,(enc a).map (reify H d)=enc a
 ren:∀ ρ d a,(enc a).map (ren ρ d)=enc a
 shift:∀ k d a,(enc a).map (shift k d)=enc a
 noId:∀ d a,(enc a).all (noId d)=true
class Cln (α:Type) [Cel α] where
 clean:∀ a:α,(Cel.enc a).all (clean 0)=true
def rows {α:Type} [Cel α] (l:List α):List (List TV):=l.map Cel.enc
def decR {α:Type} [Cel α] (l:List (List TV)):List α:=l.map Cel.dec
@[simp] theorem decR_rows {α:Type} [Cel α] (l:List α):decR (rows l)=l:=by
 unfold decR rows;rw [List.map_map]
 exact (List.map_congr_left fun a _=>Cel.back a).trans (List.map_id' l)
@[simp] theorem rows_inj {α:Type} [Cel α] (a b:List α):rows a=rows b ↔ a=b:=⟨fun h=>by rw [← decR_rows a,h,decR_rows],fun h=>by rw [h]⟩
@[simp] theorem rows_length {α:Type} [Cel α] (l:List α):(rows l).length=l.length:=by simp [rows]
@[simp] theorem rows_get {α:Type} [Cel α] (l:List α) (i:Nat):(rows l)[i]?=(l[i]?).map Cel.enc:=by simp [rows]
@[simp] theorem rows_app {α:Type} [Cel α] (l m:List α):rows l++rows m=rows (l++m):=by simp [rows]
@[simp] theorem rows_take {α:Type} [Cel α] (l:List α) (n:Nat):(rows l).take n=rows (l.take n):=by simp [rows]
@[simp] theorem rows_drop {α:Type} [Cel α] (l:List α) (n:Nat):(rows l).drop n=rows (l.drop n):=by simp [rows]
@[simp] theorem rows_set {α:Type} [Cel α] (l:List α) (i:Nat) (cs:List TV) (h:Cel.enc (Cel.dec cs:α)=cs):(rows l).set i cs=rows (l.set i (Cel.dec cs)):=by
 conv=>lhs;rw [← h]
 simp [rows,List.map_set]
@[simp] theorem rows_nil {α:Type} [Cel α]:rows ([]:List α)=[]:=rfl
@[simp] theorem rows_eq_nil {α:Type} [Cel α] (l:List α):rows l=[] ↔ l=[]:=by simp [rows]
instance:Cel Int:=⟨fun n=>[.int .i64 n],fun c=>match c with | [.int _ n]=>n | _=>0,1,fun _=>rfl,fun _=>rfl,fun _=>rfl,fun _ d _=>by cases d <;> rfl,fun _ d _=>by cases d <;> rfl,fun _ d _=>by cases d <;> rfl,fun d _=>by cases d <;> rfl⟩
instance:Cel Bool:=⟨fun n=>[.bool n],fun c=>match c with | [.bool n]=>n | _=>false,1,fun _=>rfl,fun _=>rfl,fun _=>rfl,fun _ d _=>by cases d <;> rfl,fun _ d _=>by cases d <;> rfl,fun _ d _=>by cases d <;> rfl,fun d _=>by cases d <;> rfl⟩
instance:Cel Str:=⟨fun n=>[.str n],fun c=>match c with | [.str n]=>n | _=>[],1,fun _=>rfl,fun _=>rfl,fun _=>rfl,fun _ d _=>by cases d <;> rfl,fun _ d _=>by cases d <;> rfl,fun _ d _=>by cases d <;> rfl,fun d _=>by cases d <;> rfl⟩
instance:Cel Bt:=⟨fun n=>[.int .u8 n.v.toNat],fun c=>match c with | [.int _ n]=>⟨UInt8.ofNat n.toNat⟩ | _=>⟨0⟩,1,fun _=>rfl,fun ⟨v⟩=>by simp,fun _=>rfl,fun _ d _=>by cases d <;> rfl,fun _ d _=>by cases d <;> rfl,fun _ d _=>by cases d <;> rfl,fun d _=>by cases d <;> rfl⟩
instance {α:Type} [Cel α]:Cel (List α):=⟨fun l=>[.vs (rows l)],fun c=>match c with | [.vs l]=>decR l | _=>[],1,fun _=>rfl,fun l=>by simp,fun _=>rfl,fun _ d _=>by cases d <;> rfl,fun _ d _=>by cases d <;> rfl,fun _ d _=>by cases d <;> rfl,fun d _=>by cases d <;> rfl⟩
instance {α β:Type} [Cel α] [Cel β]:Cel (α×β):=⟨fun p=>Cel.enc p.1++Cel.enc p.2,fun c=>(Cel.dec (c.take (Cel.sz α)),Cel.dec (c.drop (Cel.sz α))),Cel.sz α+Cel.sz β,fun p=>by simp [Cel.size],
 fun p=>by rw [List.take_left' (Cel.size _),List.drop_left' (Cel.size _),Cel.back,Cel.back],fun p=>by simp [List.all_append,Cel.plain],fun H d p=>by simp [Cel.reify],fun H d p=>by simp [Cel.ren],fun H d p=>by simp [Cel.shift],fun d p=>by simp [List.all_append,Cel.noId]⟩
instance:Cln Int:=⟨fun _=>rfl⟩
instance:Cln Bool:=⟨fun _=>rfl⟩
instance:Cln Str:=⟨fun _=>rfl⟩
instance:Cln Bt:=⟨fun _=>rfl⟩
instance {α β:Type} [Cel α] [Cel β] [Cln α] [Cln β]:Cln (α×β):=⟨fun p=>by
 show (Cel.enc p.1++Cel.enc p.2).all (clean 0)=true
 rw [List.all_append,Cln.clean,Cln.clean];rfl⟩
@[simp] theorem enc_int (n:Int):Cel.enc n=[TV.int .i64 n]:=rfl
@[simp] theorem enc_bool (n:Bool):Cel.enc n=[TV.bool n]:=rfl
@[simp] theorem enc_str (n:Str):Cel.enc n=[TV.str n]:=rfl
@[simp] theorem enc_bt (n:Bt):Cel.enc n=[TV.int .u8 n.v.toNat]:=rfl
@[simp] theorem enc_list {α:Type} [Cel α] (n:List α):Cel.enc n=[TV.vs (rows n)]:=rfl
@[simp] theorem enc_prod {α β:Type} [Cel α] [Cel β] (p:α×β):Cel.enc p=Cel.enc p.1++Cel.enc p.2:=rfl
@[simp] theorem dec_int (k:IntKind) (n:Int):(Cel.dec [TV.int k n]:Int)=n:=rfl
@[simp] theorem dec_bool (n:Bool):(Cel.dec [TV.bool n]:Bool)=n:=rfl
@[simp] theorem dec_str (n:Str):(Cel.dec [TV.str n]:Str)=n:=rfl
@[simp] theorem dec_list {α:Type} [Cel α] (l:List (List TV)):(Cel.dec [TV.vs l]:List α)=decR l:=rfl
@[simp] theorem dec_prod {α β:Type} [Cel α] [Cel β] (c:List TV):(Cel.dec c:α×β)=(Cel.dec (c.take (Cel.sz α)),Cel.dec (c.drop (Cel.sz α))):=rfl
@[simp] theorem dec_bt (k:IntKind) (n:Int):(Cel.dec [TV.int k n]:Bt)=⟨UInt8.ofNat n.toNat⟩:=rfl
@[simp] theorem u8_wrap (m:Int):max (IntKind.u8.wrap m) 0 % 256=IntKind.u8.wrap m:=by
 have h:0≤IntKind.u8.wrap m∧IntKind.u8.wrap m < 256:=by simp [IntKind.wrap,IntKind.bits,IntKind.signed];omega
 omega
@[simp] theorem sz_int:Cel.sz Int=1:=rfl
@[simp] theorem sz_bool:Cel.sz Bool=1:=rfl
@[simp] theorem sz_str:Cel.sz Str=1:=rfl
@[simp] theorem sz_bt:Cel.sz Bt=1:=rfl
@[simp] theorem sz_list {α:Type} [Cel α]:Cel.sz (List α)=1:=rfl
@[simp] theorem sz_prod {α β:Type} [Cel α] [Cel β]:Cel.sz (α×β)=Cel.sz α+Cel.sz β:=rfl
abbrev oo (d:Nat) (op:TOp):TO:=⟨some d,none,op⟩
abbrev mo (d s:Nat):TO:=oo d (.mv (.t s))
def zs (n:Nat) (v:TV):List TV:=List.replicate n v
abbrev mk (d:Nat) (x:Opd):TO:=oo d (.mv x)
abbrev kp (s b:List (Nat×Nat)) (p:Nat):KT:=.o ⟨s,b,p⟩
abbrev kr (t:Nat):TC:=.keep (.o ⟨[(t,0)],[],0⟩) .ret
abbrev nk (d s:Nat):TO:=oo d (.nilchk (.t s))
abbrev fa (d f s:Nat):TO:=oo d (.faddr f (.t s))
abbrev ld (d s:Nat):TO:=oo d (.load none (.t s))
abbrev ln (d k s:Nat):TO:=oo d (.load (some k) (.t s))
abbrev ia (d k s i:Nat):TO:=oo d (.iaddr k (.t s) (.t i))
abbrev le (d s:Nat):TO:=oo d (.len false (.t s))
abbrev bx (d s:Nat):TO:=oo d (.box (.t s))
abbrev nt (d s:Nat):TO:=oo d (.un .not (.t s))
abbrev bn (d:Nat) (op:BinOp) (x y:Opd):TO:=oo d (.bin .num op x y)
abbrev ca (d f:Nat) (l:List Opd):TO:=oo d (.call f l)
abbrev pk (d:Nat) (c x y:Opd):TO:=oo d (.pick c x y)
abbrev ki (n:Int):Opd:=.c (.int .i64 n)
abbrev kb (b:Bool):Opd:=.c (.bool b)
abbrev sq (l:List TO) (k:List Nat) (r:TC):TC:=.seq (.ops l) (.trim k r)
def lit {α:Type} (l:List α):List α:=l
theorem lit_eq {α:Type} (l:List α):lit l=l:=rfl
def ow (id n:Nat):TV:=if n=0 then .es else .hs id 0 n false
def ob {α:Type} [Cel α] (sz:Nat) (l:List α):Blk:=match l with | []=>.dead | _::_=>.live sz (rows l)
@[simp] theorem ow_zero (id:Nat):ow id 0=.es:=rfl
@[simp] theorem ob_nil {α:Type} [Cel α] (sz:Nat):ob sz ([]:List α)=.dead:=rfl
theorem ow_succ (id n:Nat):ow id (n+1)=.hs id 0 (n+1) false:=by simp [ow]
section
variable (id n d:Nat) (H:Heap)
@[simp] theorem plain_ow:plain (ow id n)=true:=by cases n <;> simp [ow,plain]
@[simp] theorem cellsOf_ow:cellsOf (ow id n)=some [ow id n]:=by cases n <;> simp [ow]
@[simp] theorem lenV_ow:lenV false (ow id n)=some (.int .i64 (n:Int)):=by cases n <;> simp [ow]
@[simp] theorem isStr_ow:isStr (ow id n)=false:=by cases n <;> simp [ow,isStr]
@[simp] theorem clean_ow:clean d (ow id n)=true:=by cases n <;> cases d <;> simp [ow,clean]
@[simp] theorem shift_ow (k:Nat):shift k d (ow id n)=ow (id+k) n:=by cases n <;> cases d <;> simp [ow,shift]
@[simp] theorem coC_ow:coC (ow id n)=ow id n:=by cases n <;> simp [ow,coC]
@[simp] theorem coV_ow:coV 1 (ow id n)=ow id n:=by cases n <;> simp [ow,coV,coC]
def renO (r:Option Nat) (n:Nat):TV:=match r with | some id=>ow id n | none=>if n=0 then .es else .undef
@[simp] theorem renO_some:renO (some id) n=ow id n:=rfl
@[simp] theorem ren_ow (ρ:Nat→Option Nat):ren ρ d (ow id n)=renO (ρ id) n:=by
 cases n <;> cases h:ρ id <;> cases d <;> simp [ow,ren,renO,h]
@[simp] theorem coC_full:coC (.hs id 0 n true)=ow id n:=by simp [coC,ow]
@[simp] theorem coV_full:coV 1 (.hs id 0 n true)=ow id n:=by simp [coV,coC,ow]
end
section
variable {α:Type} [Cel α] (sz d:Nat) (l:List α) (H:Heap)
@[simp] theorem renB_ob (ρ:Nat→Option Nat):renB ρ (ob sz l)=ob sz l:=by
 cases l with
 | nil=>rfl
 | cons x l =>
  simp only [ob,renB,rows,List.map_map]
  congr 1
  exact List.map_congr_left fun a _=>Cel.ren ρ 1 a
@[simp] theorem renB_rows (ρ:Nat→Option Nat):renB ρ (.live sz (rows l))=.live sz (rows l):=by
 simp only [renB,rows,List.map_map]
 congr 1
 exact List.map_congr_left fun a _=>Cel.ren ρ 1 a
@[simp] theorem shiftB_ob (k:Nat):shiftB k (ob sz l)=ob sz l:=by
 cases l with
 | nil=>rfl
 | cons x l =>
  simp only [ob,shiftB,rows,List.map_map]
  congr 1
  exact List.map_congr_left fun a _=>Cel.shift k 1 a
@[simp] theorem shiftB_rows (k:Nat):shiftB k (.live sz (rows l))=.live sz (rows l):=by
 simp only [shiftB,rows,List.map_map]
 congr 1
 exact List.map_congr_left fun a _=>Cel.shift k 1 a
@[simp] theorem cleanB_ob [Cln α]:cleanB (ob sz l)=true:=by
 cases l with
 | nil=>rfl
 | cons x l =>
  simp only [ob,cleanB,rows,List.all_map,List.all_eq_true]
  intro a _
  exact Cln.clean a
@[simp] theorem cleanB_rows [Cln α]:cleanB (.live sz (rows l))=true:=by
 simp only [cleanB,rows,List.all_map,List.all_eq_true]
 intro a _
 exact Cln.clean a
@[simp] theorem coB_ob:coB 1 (ob sz l)=ob sz l:=by cases l <;> rfl
@[simp] theorem coB_dead (c:Nat):coB c .dead=.dead:=by unfold coB;split <;> first | rfl | (rename_i h;cases h)
@[simp] theorem coB_rows:coB 1 (.live sz (rows l))=ob sz l:=by cases l <;> rfl
@[simp] theorem coB_four (b:Blk):coB 4 b=.dead:=by cases b <;> rfl
@[simp] theorem coB_zero (b:Blk):coB 0 b=b:=by cases b <;> rfl
@[simp] theorem coB_three (L:List (List TV)):coB 3 (.live sz L)=.live sz (L.map fun xs=>xs.map treC):=rfl
@[simp] theorem coB_two (L:List (List TV)):coB 2 (.live sz L)=.live sz (L.map fun xs=>xs.map coC):=rfl
end
section
variable {α:Type} [Cel α] (id d:Nat) (l:List α) (H:Heap)
def reiB (b:Option Blk) (off len d:Nat) (H:Heap):TV:=match b with
 | some (.live _ L)=>if off+len≤L.length then .vs (((L.drop off).take len).map fun xs=>xs.map (reify H d)) else .undef
 | _=>.undef
def owT (b:Option Blk) (n d:Nat) (H:Heap):TV:=if n=0 then .vs [] else reiB b 0 n d H
@[simp] theorem reify_ow (n:Nat):reify H (d+1) (ow id n)=owT H[id]? n d H:=by
 cases n with
 | zero=>rfl
 | succ n=>simp only [ow_succ,reify,owT,reiB];rw [if_neg (by omega)];split <;> simp_all
theorem rows_reify:(rows l).map (fun xs=>xs.map (reify H d))=rows l:=by
 unfold rows;rw [List.map_map];exact List.map_congr_left fun a _=>Cel.reify H d a
@[simp] theorem owT_ob {n:Nat} (sz:Nat) (h:n=l.length):owT (some (ob sz l)) n d H=.vs (rows l):=by
 subst h
 cases l with
 | nil=>rfl
 | cons x l =>
  simp only [owT,ob,reiB,rows_length,Nat.zero_add,Nat.le_refl,if_true,List.drop_zero]
  rw [List.take_of_length_le (by simp),rows_reify,if_neg (by simp)]
@[simp] theorem reify_hs (off len:Nat) (f:Bool):reify H (d+1) (.hs id off len f)=reiB H[id]? off len d H:=by
 simp only [reify,reiB];split <;> simp_all
@[simp] theorem reiB_rows {n:Nat} (sz:Nat) (h:n=l.length):reiB (some (.live sz (rows l))) 0 n d H=.vs (rows l):=by
 subst h
 simp only [reiB,rows_length,Nat.zero_add,Nat.le_refl,if_true,List.drop_zero]
 rw [List.take_of_length_le (by simp),rows_reify]
def reiP (b:Option Blk) (i j d:Nat) (H:Heap):TV:=match b with
 | some (.live _ l)=>(match l[i]? with | some xs=>.vp ((xs.drop j).map (reify H d)) | none=>.undef)
 | _=>.undef
@[simp] theorem reify_ptr (i j:Nat):reify H (d+1) (.ptr id i j)=reiP H[id]? i j d H:=by
 simp only [reify,reiP]
 cases H[id]? with
 | none=>rfl
 | some b=>cases b with
  | dead=>rfl
  | live sz l=>simp only [];cases l[i]? <;> rfl
@[simp] theorem reiP_one (sz j:Nat) (xs:List TV):reiP (some (.live sz [xs])) 0 j d H=.vp ((xs.drop j).map (reify H d)):=rfl
variable (k:IntKind) (n:Int) (b:Bool) (s:Str) (c:List TV) (L:List (List TV)) (f:Nat)
@[simp] theorem reify_int:reify H d (.int k n)=.int k n:=by cases d <;> rfl
@[simp] theorem reify_bool:reify H d (.bool b)=.bool b:=by cases d <;> rfl
@[simp] theorem reify_str:reify H d (.str s)=.str s:=by cases d <;> rfl
@[simp] theorem reify_vp:reify H d (.vp c)=.vp c:=by cases d <;> rfl
@[simp] theorem reify_vs:reify H d (.vs L)=.vs L:=by cases d <;> rfl
@[simp] theorem reify_es:reify H d .es=.vs []:=by cases d <;> rfl
@[simp] theorem reify_nils:reify H d .nils=.vs []:=by cases d <;> rfl
@[simp] theorem reify_nilp:reify H d .nilp=.nilp:=by cases d <;> rfl
@[simp] theorem reify_nilf:reify H d .nilf=.nilf:=by cases d <;> rfl
@[simp] theorem reify_nili:reify H d .nili=.nili:=by cases d <;> rfl
@[simp] theorem reify_agg:reify H (d+1) (.agg c)=.agg (c.map (reify H d)):=rfl
@[simp] theorem reify_fn (x y:List TV):reify H (d+1) (.fn f x y)=.fn f (x.map (reify H d)) (y.map (reify H d)):=rfl
@[simp] theorem noId_int:noId d (.int k n)=true:=by cases d <;> rfl
@[simp] theorem noId_bool:noId d (.bool b)=true:=by cases d <;> rfl
@[simp] theorem noId_str:noId d (.str s)=true:=by cases d <;> rfl
@[simp] theorem noId_vp:noId d (.vp c)=true:=by cases d <;> rfl
@[simp] theorem noId_vs:noId d (.vs L)=true:=by cases d <;> rfl
@[simp] theorem noId_es:noId d .es=true:=by cases d <;> rfl
@[simp] theorem noId_nils:noId d .nils=true:=by cases d <;> rfl
@[simp] theorem noId_agg:noId (d+1) (.agg c)=c.all (noId d):=rfl
@[simp] theorem noId_fn (x y:List TV):noId (d+1) (.fn f x y)=(x.all (noId d) && y.all (noId d)):=rfl
@[simp] theorem noId_ptr (i j:Nat):noId d (.ptr id i j)=false:=by cases d <;> rfl
@[simp] theorem noId_hs (i j:Nat):noId d (.hs id i j b)=false:=by cases d <;> rfl
@[simp] theorem clean_int:clean d (.int k n)=true:=by cases d <;> rfl
@[simp] theorem clean_bool:clean d (.bool b)=true:=by cases d <;> rfl
@[simp] theorem clean_str:clean d (.str s)=true:=by cases d <;> rfl
@[simp] theorem clean_es:clean d .es=true:=by cases d <;> rfl
@[simp] theorem clean_nils:clean d .nils=true:=by cases d <;> rfl
@[simp] theorem clean_hs (i j:Nat):clean d (.hs id i j b)=true:=by cases d <;> rfl
@[simp] theorem clean_agg:clean (d+1) (.agg c)=c.all (clean d):=rfl
@[simp] theorem clean_tup:clean (d+1) (.tup c)=c.all (clean d):=rfl
@[simp] theorem shift_int (m:Nat):shift m d (.int k n)=.int k n:=by cases d <;> rfl
@[simp] theorem shift_bool (m:Nat):shift m d (.bool b)=.bool b:=by cases d <;> rfl
@[simp] theorem shift_str (m:Nat):shift m d (.str s)=.str s:=by cases d <;> rfl
@[simp] theorem shift_vs (m:Nat):shift m d (.vs L)=.vs L:=by cases d <;> rfl
@[simp] theorem shift_vp (m:Nat):shift m d (.vp c)=.vp c:=by cases d <;> rfl
@[simp] theorem shift_es (m:Nat):shift m d .es=.es:=by cases d <;> rfl
@[simp] theorem shift_nils (m:Nat):shift m d .nils=.nils:=by cases d <;> rfl
@[simp] theorem shift_ptr (m i j:Nat):shift m d (.ptr id i j)=.ptr (id+m) i j:=by cases d <;> rfl
@[simp] theorem shift_agg (m:Nat):shift m (d+1) (.agg c)=.agg (c.map (shift m d)):=rfl
@[simp] theorem shift_tup (m:Nat):shift m (d+1) (.tup c)=.tup (c.map (shift m d)):=rfl
@[simp] theorem shiftB_live (m sz:Nat):shiftB m (.live sz L)=.live sz (L.map fun xs=>xs.map (shift m 1)):=rfl
@[simp] theorem shift_hs (m id off len:Nat) (full:Bool):shift m d (.hs id off len full)=.hs (id+m) off len full:=by cases d <;> rfl
@[simp] theorem rows_shift {α:Type} [Cel α] (l:List α) (m:Nat):(rows l).map (fun xs=>xs.map (shift m 1))=rows l:=by
 simp only [rows,List.map_map]
 exact List.map_congr_left fun a _=>Cel.shift m 1 a
@[simp] theorem shiftB_dead (m:Nat):shiftB m .dead=.dead:=rfl
@[simp] theorem cleanB_live (sz:Nat):cleanB (.live sz L)=L.all fun xs=>xs.all (clean 0):=rfl
@[simp] theorem cleanB_dead:cleanB .dead=true:=rfl
variable (ρ:Nat→Option Nat)
@[simp] theorem ren_int:ren ρ d (.int k n)=.int k n:=by cases d <;> rfl
@[simp] theorem ren_bool:ren ρ d (.bool b)=.bool b:=by cases d <;> rfl
@[simp] theorem ren_str:ren ρ d (.str s)=.str s:=by cases d <;> rfl
@[simp] theorem ren_vs:ren ρ d (.vs L)=.vs L:=by cases d <;> rfl
@[simp] theorem ren_vp:ren ρ d (.vp c)=.vp c:=by cases d <;> rfl
@[simp] theorem ren_es:ren ρ d .es=.es:=by cases d <;> rfl
@[simp] theorem ren_nils:ren ρ d .nils=.nils:=by cases d <;> rfl
@[simp] theorem ren_nilp:ren ρ d .nilp=.nilp:=by cases d <;> rfl
@[simp] theorem ren_nilf:ren ρ d .nilf=.nilf:=by cases d <;> rfl
@[simp] theorem ren_nili:ren ρ d .nili=.nili:=by cases d <;> rfl
@[simp] theorem ren_undef:ren ρ d .undef=.undef:=by cases d <;> rfl
@[simp] theorem ren_agg:ren ρ (d+1) (.agg c)=.agg (c.map (ren ρ d)):=rfl
@[simp] theorem ren_tup:ren ρ (d+1) (.tup c)=.tup (c.map (ren ρ d)):=rfl
@[simp] theorem ren_fn (x y:List TV):ren ρ (d+1) (.fn f x y)=.fn f (x.map (ren ρ d)) (y.map (ren ρ d)):=rfl
def renP (r:Option Nat) (i j:Nat):TV:=match r with | some id=>.ptr id i j | none=>.undef
@[simp] theorem renP_some (i j:Nat):renP (some id) i j=.ptr id i j:=rfl
@[simp] theorem ren_ptr (i j:Nat):ren ρ d (.ptr id i j)=renP (ρ id) i j:=by cases d <;> rfl
def renH (r:Option Nat) (i j:Nat) (b:Bool):TV:=match r with | some id=>.hs id i j b | none=>.undef
@[simp] theorem renH_some (i j:Nat):renH (some id) i j b=.hs id i j b:=rfl
@[simp] theorem ren_hs (i j:Nat):ren ρ d (.hs id i j b)=renH (ρ id) i j b:=by cases d <;> rfl
@[simp] theorem renB_dead:renB ρ .dead=.dead:=rfl
@[simp] theorem renB_live_one (sz:Nat) (xs:List TV):renB ρ (.live sz [xs])=.live sz [xs.map (ren ρ 1)]:=rfl
@[simp] theorem renB_live_two (sz:Nat) (a b:List TV) (l:List (List TV)):renB ρ (.live sz (a::b::l))=.live sz ((a::b::l).map (List.map (ren ρ 1))):=rfl
@[simp] theorem posOf_cons (x y:Nat) (l:List Nat):posOf (x::l) y=if x=y then some 0 else (posOf l y).map (·+1):=rfl
@[simp] theorem posOf_nil (y:Nat):posOf [] y=none:=rfl
@[simp] theorem backOf_nil (m q:Nat):backOf m [] q=m+q:=by cases q <;> rfl
@[simp] theorem backOf_zero (m x:Nat) (l:List Nat):backOf m (x::l) 0=x:=rfl
@[simp] theorem backOf_succ (m x q:Nat) (l:List Nat):backOf m (x::l) (q+1)=backOf m l q:=rfl
attribute [simp] noDup onlyB killB layB keepH
@[simp] theorem coV_zero (v:TV):coV 0 v=v:=by cases v <;> rfl
@[simp] theorem coV_agg:coV 1 (.agg c)=.agg (c.map coC):=rfl
@[simp] theorem coV_nils:coV 1 .nils=.es:=rfl
@[simp] theorem coV_es:coV 1 .es=.es:=rfl
@[simp] theorem coV_vs:coV 1 (.vs L)=.vs L:=rfl
@[simp] theorem coV_int:coV 1 (.int k n)=.int k n:=rfl
@[simp] theorem coV_bool:coV 1 (.bool b)=.bool b:=rfl
@[simp] theorem coV_str:coV 1 (.str s)=.str s:=rfl
@[simp] theorem coV_ptr (i j:Nat):coV 1 (.ptr id i j)=.ptr id i j:=rfl
@[simp] theorem coC_nils:coC .nils=.es:=rfl
@[simp] theorem coC_es:coC .es=.es:=rfl
@[simp] theorem coC_vs:coC (.vs L)=.vs L:=rfl
@[simp] theorem coC_int:coC (.int k n)=.int k n:=rfl
@[simp] theorem coC_bool:coC (.bool b)=.bool b:=rfl
@[simp] theorem coC_str:coC (.str s)=.str s:=rfl
@[simp] theorem coC_ptr (i j:Nat):coC (.ptr id i j)=.ptr id i j:=rfl
@[simp] theorem coC_half (i j:Nat):coC (.hs id i j false)=.hs id i j false:=rfl
@[simp] theorem coV2_nils:coV 2 .nils=.vs []:=rfl
@[simp] theorem coV2_es:coV 2 .es=.vs []:=rfl
@[simp] theorem coV2_vs:coV 2 (.vs L)=.vs L:=rfl
@[simp] theorem coV2_agg:coV 2 (.agg c)=.agg (c.map treC):=rfl
@[simp] theorem treC_nils:treC .nils=.vs []:=rfl
@[simp] theorem treC_es:treC .es=.vs []:=rfl
@[simp] theorem treC_vs:treC (.vs L)=.vs L:=rfl
@[simp] theorem treC_int:treC (.int k n)=.int k n:=rfl
@[simp] theorem treC_bool:treC (.bool b)=.bool b:=rfl
@[simp] theorem treC_str:treC (.str s)=.str s:=rfl
end
section
variable {α:Type} [Cel α] (l:List α) (H:Heap) (id sz:Nat)
@[simp] theorem rowV_map {sz:Nat} (h:Cel.sz α=sz) (o:Option α):rowV sz (o.map Cel.enc)=o.map fun x=>TV.vp (Cel.enc x):=by
 cases o with
 | none=>rfl
 | some x=>simp [rowV,Cel.size,h]
@[simp] theorem iaddrV_es (sz:Nat) (k:IntKind) (n:Int):iaddrV H sz .es (.int k n)=none:=rfl
@[simp] theorem iaddrV_nils (sz:Nat) (k:IntKind) (n:Int):iaddrV H sz .nils (.int k n)=none:=rfl
def addO (b:Option Blk) (sz id m:Nat) (n:Int):Option TV:=if 0≤n∧n < (m:Int) then (match b with | some (.live sz' _)=>if sz'=sz then some (.ptr id n.toNat 0) else none | _=>none) else none
@[simp] theorem iaddrV_ow (k:IntKind) (m:Nat) (n:Int):iaddrV H sz (ow id m) (.int k n)=addO H[id]? sz id m n:=by
 cases m with
 | zero =>
  simp only [ow_zero,iaddrV,addO]
  rw [if_neg (by omega)]
 | succ m=>simp only [ow_succ,iaddrV,addO,rowB,Nat.zero_add];rfl
@[simp] theorem addO_ob {m:Nat} (n:Int) (h:m=l.length):addO (some (ob sz l)) sz id m n=if 0≤n∧n < (m:Int) then some (.ptr id n.toNat 0) else none:=by
 subst h
 cases l with
 | nil=>simp only [addO,ob,List.length_nil];rw [if_neg (by omega),if_neg (by omega)]
 | cons x l=>simp only [addO,ob];split <;> simp
@[simp] theorem cellsB_ob (i j:Nat):cellsB (some (ob sz l)) i j=(l[i]?).map fun x=>(Cel.enc x).drop j:=by
 cases l with
 | nil=>rfl
 | cons x l=>simp only [ob,cellsB,rows_get,Option.map_map];rfl
@[simp] theorem cellsB_rows (i j:Nat):cellsB (some (.live sz (rows l))) i j=(l[i]?).map fun x=>(Cel.enc x).drop j:=by
 simp only [cellsB,rows_get,Option.map_map];rfl
@[simp] theorem packV_map {β:Type} (n:Option Nat) (f:β→List TV) (o:Option β):packV n (o.map f)=o.bind fun x=>packV n (some (f x)):=by cases o <;> rfl
def elO (b:Option Blk) (n:Nat):Option (List (List TV)):=if n=0 then some [] else (match b with | some (.live _ L)=>if n≤L.length then some (L.take n) else none | _=>none)
@[simp] theorem elems_ow (n:Nat):elems H (ow id n)=elO H[id]? n:=by
 cases n with
 | zero=>rfl
 | succ n=>simp only [ow_succ,elems,elO,Nat.zero_add,List.drop_zero];rw [if_neg (by omega)];rfl
@[simp] theorem elO_ob {n:Nat} (h:n=l.length):elO (some (ob sz l)) n=some (rows l):=by
 subst h
 cases l with
 | nil=>rfl
 | cons x l=>simp only [elO,ob,rows_length,Nat.le_refl,if_true];rw [List.take_of_length_le (by simp),if_neg (by simp)]
def elB (b:Option Blk) (off len:Nat):Option (List (List TV)):=match b with | some (.live _ L)=>if off+len≤L.length then some ((L.drop off).take len) else none | _=>none
@[simp] theorem elems_hs (off len:Nat) (f:Bool):elems H (.hs id off len f)=elB H[id]? off len:=by simp only [elems,elB];split <;> simp_all
@[simp] theorem elB_rows {n:Nat} (h:n=l.length):elB (some (.live sz (rows l))) 0 n=some (rows l):=by
 subst h
 simp only [elB,rows_length,Nat.zero_add,Nat.le_refl,if_true,List.drop_zero];rw [List.take_of_length_le (by simp)]
@[simp] theorem elems_vs (L:List (List TV)):elems H (.vs L)=some L:=rfl
@[simp] theorem elems_es:elems H .es=some []:=rfl
@[simp] theorem elems_nils:elems H .nils=some []:=rfl
def appL {β:Type} (bytes:Nat) (l b:List β):Option (List β):=if (l.length+b.length) * (bytes+1)≤maxRow then some (l++b) else none
theorem rows_len_all {sz:Nat} (h:Cel.sz α=sz):(rows l).all (fun xs=>xs.length == sz)=true:=by
 simp only [rows,List.all_map,List.all_eq_true]
 intro a _
 simp [Cel.size,h]
theorem rows_ok_all {sz:Nat} (h:Cel.sz α=sz):(rows l).all (fun xs=>xs.length == sz && xs.all plain)=true:=by
 simp only [rows,List.all_map,List.all_eq_true]
 intro a _
 simp only [Function.comp,Cel.size,h,Cel.plain];simp
def appendBV (H:Heap) (el sz bytes:Nat) (s:TV) (b:List (List TV)):Option (TV×Heap) :=
 if sz=1∧b.all (fun xs=>xs.length == 1 && xs.all plain)=true then
  match s with
  | .nb=>if b.length=0 then some (.nb,H++[.dead]) else if b.length * (bytes+1)≤maxRow then some (.hb H.length b.length el,H++[.live 1 b]) else none
  | .hb id n T=>match H[id]? with
   | some (.live 1 l)=>if T=el∧n=l.length∧(n+b.length) * (bytes+1)≤maxRow then some (.hb H.length (n+b.length) el,H.set id .dead++[.live 1 (l++b)]) else none
   | _=>none
  | _=>none
 else none
def appR (H:Heap) (el sz bytes:Nat) (v:TV) (b:Option (List (List TV))):Option (TV×Heap) :=
 match b with
 | none=>none
 | some b =>
  match v with
  | .nils=>if b.all (fun xs=>xs.length == sz) then (if b.length=0 then some (.nils,H++[.dead]) else if b.length * (bytes+1)≤maxRow then some (.hs H.length 0 b.length false,H++[.live sz b]) else none) else none
  | .es=>if b.all (fun xs=>xs.length == sz) then (if b.length=0 then some (.es,H++[.dead]) else if b.length * (bytes+1)≤maxRow then some (.hs H.length 0 b.length false,H++[.live sz b]) else none) else none
  | .hs id off len false=>match H[id]? with
   | some (.live sz' l) =>
    if sz'=sz∧off+len=l.length∧(len+b.length) * (bytes+1)≤maxRow∧b.all (fun xs=>xs.length == sz && xs.all plain) then
     some (.hs H.length 0 (len+b.length) false,H.set id .dead++[.live sz (l.drop off++b)])
    else none
   | _=>none
  | .hs id off len true=>if b.all (fun xs=>xs.length == sz) then (if b.length=0 then some (.hs id off len true,H) else match H[id]? with
   | some (.live sz' l)=>if sz'=sz∧off+len≤l.length∧(len+b.length) * (bytes+1)≤maxRow then some (.hs H.length 0 (len+b.length) false,H++[.live sz ((l.drop off).take len++b)]) else none
   | _=>none) else none
  | .nb=>appendBV H el sz bytes .nb b
  | .hb id n T=>appendBV H el sz bytes (.hb id n T) b
  | .vs l=>if b.all (fun xs=>xs.length == sz) then (if b.length=0 then some (.vs l,H) else none) else none
  | _=>none
@[simp] theorem sR_append (rec:TC→Env→Heap→Option Out) (S:Sys) (e:Env) (el sz bytes:Nat) (s x:Opd):runOp rec S e H (.append el sz bytes s x)=appR H el sz bytes (ev e s) (elems H (ev e x)):=by
 cases hx:elems H (ev e x) with
 | none =>
  have h1:opA S e H H.length (.append el sz bytes s x)=none:=by simp only [opA,hx]
  simp only [runOp,appR,appendM,appendB,hx,h1]
  generalize ev e s=v
  cases v <;> try rfl
  case hs id off len full=>cases full <;> rfl
 | some b =>
  cases hs:ev e s with
  | hs id off len full =>
   cases full with
   | false=>simp only [runOp,appR,hs,hx,appendM];rfl
   | true =>
    simp only [runOp,appR,hs,hx,opA]
    by_cases hall:b.all (fun xs=>xs.length == sz)=true
    ·simp only [if_pos hall]
     by_cases h0:b.length=0
     ·simp [h0]
     ·simp only [if_neg h0]
      cases H[id]? with
      | none=>rfl
      | some bk=>cases bk with
       | dead=>rfl
       | live sz' l=>simp only [];split <;> rfl
    ·simp only [if_neg hall];rfl
  | nils =>
   simp only [runOp,appR,hs,hx,opA]
   by_cases hall:b.all (fun xs=>xs.length == sz)=true
   ·simp only [if_pos hall]
    by_cases h0:b.length=0
    ·simp [h0]
    ·simp only [if_neg h0];split <;> rfl
   ·simp only [if_neg hall];rfl
  | es =>
   simp only [runOp,appR,hs,hx,opA]
   by_cases hall:b.all (fun xs=>xs.length == sz)=true
   ·simp only [if_pos hall]
    by_cases h0:b.length=0
    ·simp [h0]
    ·simp only [if_neg h0];split <;> rfl
   ·simp only [if_neg hall];rfl
  | nb=>simp only [runOp,appR,hs,appendB,hx,appendBV]
  | hb id n T=>simp only [runOp,appR,hs,appendB,hx,appendBV];rfl
  | vs l =>
   simp only [runOp,appR,hs,hx,opA]
   by_cases hall:b.all (fun xs=>xs.length == sz)=true
   ·simp only [if_pos hall]
    by_cases h0:b.length=0
    ·simp [h0]
    ·simp only [if_neg h0];rfl
   ·simp only [if_neg hall];rfl
  | _ =>
   simp only [runOp,appR,hs,hx,opA]
   by_cases hall:b.all (fun xs=>xs.length == sz)=true
   ·simp only [if_pos hall];rfl
   ·simp only [if_neg hall];rfl
theorem appR_ow {el sz bytes:Nat} (h:Cel.sz α=sz) (b:List α) (hb:H[id]?=some (ob sz l)):appR H el sz bytes (ow id l.length) (some (rows b))=(appL bytes l b).map fun r=>(ow H.length r.length,H.set id .dead++[ob sz r]):=by
 have hid:id < H.length:=(List.getElem?_eq_some_iff.1 hb).1
 cases l with
 | nil =>
  have hd:H.set id .dead=H:=by
   apply List.ext_getElem?
   intro k
   rw [List.getElem?_set]
   split
   ·rename_i hk;subst hk;rw [hb];simp [ob,hid]
   ·rfl
  simp only [ow_zero,appR,rows_len_all b h,if_true,rows_length,appL,List.length_nil,Nat.zero_add,List.nil_append,hd]
  cases b with
  | nil=>simp [ow,ob]
  | cons y b =>
   rw [if_neg (by simp)]
   split <;> simp [ow,ob]
 | cons x l =>
  simp only [List.length_cons,ow_succ,appR,hb,ob,rows_ok_all b h,rows_length,appL,Nat.zero_add,true_and,and_true,List.drop_zero]
  split
  ·simp [ow,ob,rows];omega
  ·rfl
noncomputable def appT (H:Heap) (el sz bytes id n:Nat) (b:Option Blk) (x:List α):Option (TV×Heap):=open Classical in if h:∃ l:List α,b=some (ob sz l)∧n=l.length then (appL bytes h.choose x).map fun r=>(ow H.length r.length,H.set id .dead++[ob sz r]) else appR H el sz bytes (ow id n) (some (rows x))
@[simp] theorem appR_owr {el sz bytes n:Nat} (h:Cel.sz α=sz) (b:List α):appR H el sz bytes (ow id n) (some (rows b))=appT H el sz bytes id n H[id]? b:=by
 unfold appT
 split
 ·rename_i hx
  have h1:=hx.choose_spec
  revert h1
  generalize hx.choose=l'
  rintro ⟨h1,rfl⟩
  exact appR_ow _ H id h b h1
 ·rfl
theorem ob_inj {sz:Nat} {a b:List α} (h:ob sz a=ob sz b):a=b:=by
 cases a with
 | nil=>cases b with
  | nil=>rfl
  | cons y b=>cases h
 | cons x a=>cases b with
  | nil=>cases h
  | cons y b =>
   simp only [ob,Blk.live.injEq,rows_inj] at h
   exact h.2
@[simp] theorem appT_ob {n:Nat} (el sz bytes:Nat) (b:List α) (h:n=l.length):appT H el sz bytes id n (some (ob sz l)) b=(appL bytes l b).map fun r=>(ow H.length r.length,H.set id .dead++[ob sz r]):=by
 unfold appT
 have hx:∃ l':List α,some (ob sz l)=some (ob sz l')∧n=l'.length:=⟨l,rfl,h⟩
 rw [dif_pos hx]
 have:=hx.choose_spec.1
 rw [← ob_inj (Option.some.inj this)]
noncomputable def appHG (H:Heap) (el sz bytes id n:Nat) (b:Option Blk) (x:List α):Option (TV×Heap):=open Classical in if h:∃ l:List α,b=some (.live sz (rows l))∧n=l.length then (appL bytes h.choose x).map fun r=>(.hs H.length 0 r.length false,H.set id .dead++[.live sz (rows r)]) else appR H el sz bytes (.hs id 0 n false) (some (rows x))
theorem appR_half {el sz bytes:Nat} (h:Cel.sz α=sz) (b:List α) (hb:H[id]?=some (.live sz (rows l))):appR H el sz bytes (.hs id 0 l.length false) (some (rows b))=(appL bytes l b).map fun r=>(.hs H.length 0 r.length false,H.set id .dead++[.live sz (rows r)]):=by
 simp only [appR,hb,rows_ok_all b h,rows_length,appL,Nat.zero_add,true_and,and_true,List.drop_zero]
 split
 ·simp [rows]
 ·rfl
@[simp] theorem appR_halfr {el sz bytes n:Nat} (h:Cel.sz α=sz) (b:List α):appR H el sz bytes (.hs id 0 n false) (some (rows b))=appHG H el sz bytes id n H[id]? b:=by
 unfold appHG
 split
 ·rename_i hx
  have h1:=hx.choose_spec
  revert h1
  generalize hx.choose=l'
  rintro ⟨h1,rfl⟩
  exact appR_half _ H id h b h1
 ·rfl
@[simp] theorem appHG_live {n:Nat} (el sz bytes:Nat) (b:List α) (h:n=l.length):appHG H el sz bytes id n (some (.live sz (rows l))) b=(appL bytes l b).map fun r=>(.hs H.length 0 r.length false,H.set id .dead++[.live sz (rows r)]):=by
 unfold appHG
 have hx:∃ l':List α,some (Blk.live sz (rows l))=some (.live sz (rows l'))∧n=l'.length:=⟨l,rfl,h⟩
 rw [dif_pos hx]
 have e:hx.choose=l:=by
  have h1:=Option.some.inj hx.choose_spec.1
  injection h1 with h2 h3
  exact ((rows_inj _ _).1 h3).symm
 rw [e]
@[simp] theorem appR_es {el sz bytes:Nat} (h:Cel.sz α=sz) (b:List α):appR H el sz bytes .es (some (rows b))=(appL bytes [] b).map fun r=>(ow H.length r.length,H++[ob sz r]):=by
 simp only [appR,rows_len_all b h,if_true,rows_length,appL,List.length_nil,Nat.zero_add,List.nil_append]
 cases b with
 | nil=>simp [ow,ob]
 | cons y b =>
  rw [if_neg (by simp)]
  split <;> simp [ow,ob]
@[simp] theorem appR_nils {el sz bytes:Nat} (h:Cel.sz α=sz) (x:α) (b:List α):appR H el sz bytes .nils (some (rows (lit (x::b))))=(appL bytes [] (lit (x::b))).map fun r=>(ow H.length r.length,H++[ob sz r]):=by
 simp only [appR,rows_len_all _ h,if_true,rows_length,appL,List.length_nil,Nat.zero_add,List.nil_append,lit]
 rw [if_neg (by simp)]
 split <;> simp [ow,ob]
def appF (H:Heap) (sz bytes id:Nat) (l b:List α):Option (TV×Heap):=if b.length=0 then some (.hs id 0 l.length true,H) else (appL bytes l b).map fun r=>(ow H.length r.length,H++[ob sz r])
noncomputable def appG (H:Heap) (el sz bytes id n:Nat) (b:Option Blk) (x:List α):Option (TV×Heap):=open Classical in if h:∃ l:List α,b=some (.live sz (rows l))∧n=l.length then appF H sz bytes id h.choose x else appR H el sz bytes (.hs id 0 n true) (some (rows x))
theorem appR_full {el sz bytes:Nat} (h:Cel.sz α=sz) (b:List α) (hb:H[id]?=some (.live sz (rows l))):appR H el sz bytes (.hs id 0 l.length true) (some (rows b))=appF H sz bytes id l b:=by
 simp only [appR,rows_len_all b h,if_true,rows_length,hb,appF,Nat.zero_add,true_and,Nat.le_refl,List.drop_zero,appL]
 split
 ·rfl
 ·rename_i h0
  rw [List.take_of_length_le (by simp)]
  have hne:l++b ≠ []:=by intro hh;simp at hh;simp [hh.2] at h0
  split
  ·cases hlb:l++b with
   | nil=>exact absurd hlb hne
   | cons y r =>
    simp only [Option.map_some,List.length_cons,ow_succ,ob,rows_app,hlb]
    rw [← List.length_cons,← hlb,List.length_append]
  ·rfl
@[simp] theorem appR_fullr {el sz bytes n:Nat} (h:Cel.sz α=sz) (b:List α):appR H el sz bytes (.hs id 0 n true) (some (rows b))=appG H el sz bytes id n H[id]? b:=by
 unfold appG
 split
 ·rename_i hx
  have h1:=hx.choose_spec
  revert h1
  generalize hx.choose=l'
  rintro ⟨h1,rfl⟩
  exact appR_full _ H id h b h1
 ·rfl
@[simp] theorem appG_rows {n:Nat} (el sz bytes:Nat) (b:List α) (h:n=l.length):appG H el sz bytes id n (some (.live sz (rows l))) b=appF H sz bytes id l b:=by
 unfold appG
 have hx:∃ l':List α,some (Blk.live sz (rows l))=some (.live sz (rows l'))∧n=l'.length:=⟨l,rfl,h⟩
 rw [dif_pos hx]
 have h1:=hx.choose_spec
 revert h1
 generalize hx.choose=l'
 rintro ⟨h1,-⟩
 simp only [Option.some.injEq,Blk.live.injEq,rows_inj,true_and] at h1
 rw [h1]
@[simp] theorem appF_lit (sz bytes:Nat) (x:α) (b:List α):appF H sz bytes id l (lit (x::b))=(appL bytes l (lit (x::b))).map fun r=>(ow H.length r.length,H++[ob sz r]):=by simp [appF,lit]
def appA (H:Heap) (base sz bytes:Nat) (v:TV) (b:Option (List (List TV))):Option (TV×List Blk) :=
 match b with
 | none=>none
 | some b =>
  if b.all (fun xs=>xs.length == sz) then
   match v with
   | .nils=>if b.length=0 then some (.nils,[.dead]) else if b.length * (bytes+1)≤maxRow then some (.hs base 0 b.length false,[.live sz b]) else none
   | .es=>if b.length=0 then some (.es,[.dead]) else if b.length * (bytes+1)≤maxRow then some (.hs base 0 b.length false,[.live sz b]) else none
   | .hs id off len true=>if b.length=0 then some (.hs id off len true,[]) else match H[id]? with
    | some (.live sz' l)=>if sz'=sz∧off+len≤l.length∧(len+b.length) * (bytes+1)≤maxRow then some (.hs base 0 (len+b.length) false,[.live sz ((l.drop off).take len++b)]) else none
    | _=>none
   | .vs l=>if b.length=0 then some (.vs l,[]) else none
   | _=>none
  else none
@[simp] theorem sA_append (S:Sys) (e:Env) (base el sz bytes:Nat) (s x:Opd):opA S e H base (.append el sz bytes s x)=appA H base sz bytes (ev e s) (elems H (ev e x)):=by
 simp only [opA,appA]
 cases elems H (ev e x) with
 | none=>rfl
 | some b=>rfl
@[simp] theorem appA_es {sz bytes base:Nat} (h:Cel.sz α=sz) (b:List α):appA H base sz bytes .es (some (rows b))=(appL bytes [] b).map fun r=>(ow base r.length,[ob sz r]):=by
 simp only [appA,rows_len_all b h,if_true,rows_length,appL,List.length_nil,Nat.zero_add,List.nil_append]
 cases b with
 | nil=>simp [ow,ob]
 | cons y b =>
  rw [if_neg (by simp)]
  split <;> simp [ow,ob]
@[simp] theorem appA_nils {sz bytes base:Nat} (h:Cel.sz α=sz) (x:α) (b:List α):appA H base sz bytes .nils (some (rows (lit (x::b))))=(appL bytes [] (lit (x::b))).map fun r=>(ow base r.length,[ob sz r]):=by
 simp only [appA,rows_len_all _ h,if_true,rows_length,appL,List.length_nil,Nat.zero_add,List.nil_append,lit]
 rw [if_neg (by simp)]
 split <;> simp [ow,ob]
def setO (sz:Nat) (l:List α) (i:Nat) (s:List TV):Blk:=match l with | []=>.dead | _::_=>.live sz ((rows l).set i s)
@[simp] theorem setO_typed (sz i:Nat) (s:List TV) (h:Cel.enc (Cel.dec s:α)=s):setO sz l i s=ob sz (l.set i (Cel.dec s)):=by
 cases l with
 | nil=>rfl
 | cons x l =>
  have:=rows_set (x::l) i s h
  simp only [setO,this]
  cases i <;> rfl
@[simp] theorem storeB_ob (n i j:Nat) (cs:List TV):storeB H n id i j cs (some (ob sz l))=(l[i]?).bind fun x=>if j+n≤(Cel.enc x).length then some (H.set id (setO sz l i (splice (Cel.enc x) j cs))) else none:=by
 cases l with
 | nil=>rfl
 | cons y l =>
  simp only [ob,storeB_live,rows_get]
  cases (y::l)[i]? with
  | none=>rfl
  | some x=>rfl
@[simp] theorem storeR_map (n i j:Nat) (cs:List TV) (L:List (List TV)) (o:Option α):storeR H n id i j cs sz L (o.map Cel.enc)=o.bind fun x=>storeR H n id i j cs sz L (some (Cel.enc x)):=by cases o <;> rfl
def bslV (b:Nat) (zs:List TV) (n:Nat) (L:Option (List (List TV))):Option (TV×List Blk):=match L with | some L=>some (.hs b 0 n true,[.live zs.length L]) | none=>none
@[simp] theorem sA_bslice0 (S:Sys) (e:Env) (b:Nat) (zs:List TV):opA S e H b (.bslice zs 0 [])=some (.es,[]):=rfl
theorem sA_bslice (S:Sys) (e:Env) (b:Nat) (z:TV) (zs:List TV) (n:Nat) (ps:List (Nat×Opd)):opA S e H b (.bslice (z::zs) (n+1) ps)=bslV b (z::zs) (n+1) (fillS (z::zs).length (n+1) (List.replicate (n+1) (z::zs)) (ps.map fun p=>(p.1,ev e p.2))):=by
 simp only [opA,bslV]
 rw [if_neg (by omega),if_neg (by simp)]
 rfl
def filC (sz n:Nat) (l:List (List TV)) (i:Nat) (v:Option (List TV)) (k:List (List TV)→Option (List (List TV))):Option (List (List TV)):=match v with | some cs=>if cs.length=sz∧i < n then k (l.set i cs) else none | none=>none
@[simp] theorem fillS_nil (sz n:Nat) (l:List (List TV)):fillS sz n l []=some l:=rfl
@[simp] theorem fillS_cons (sz n:Nat) (l:List (List TV)) (i:Nat) (v:TV) (r:List (Nat×TV)):fillS sz n l ((i,v)::r)=filC sz n l i (cellsOf v) fun c=>fillS sz n c r:=by
 simp only [fillS,filC];split <;> simp_all
@[simp] theorem filC_some (sz n:Nat) (l:List (List TV)) (i:Nat) (cs:List TV) (k:List (List TV)→Option (List (List TV))):filC sz n l i (some cs) k=if cs.length=sz∧i < n then k (l.set i cs) else none:=rfl
def okR (α:Type) [Cel α]:List (List TV)→Prop
 | []=>True
 | c::L=>Cel.enc (Cel.dec c:α)=c∧okR α L
@[simp] theorem okR_nil:okR α []=True:=rfl
@[simp] theorem okR_cons (c:List TV) (L:List (List TV)):okR α (c::L)=(Cel.enc (Cel.dec c:α)=c∧okR α L):=rfl
theorem okR_rows:∀ {L:List (List TV)},okR α L→rows (decR L:List α)=L
 | [],_=>rfl
 | c::L,h=>by
  have:=okR_rows h.2
  simp only [rows,decR,List.map_cons] at this ⊢
  rw [h.1,this]
@[simp] theorem bslV_fn (b n:Nat) (L:List (List TV)):bslV b [.nilf] n (some L)=some (.hs b 0 n true,[.live 1 L]):=rfl
theorem bslV_lit {zs:List TV} {b n:Nat} {L:List (List TV)} (hz:zs.length=Cel.sz α) (hn:n=L.length) (h0:okR α L):bslV b zs n (some L)=some (.hs b 0 (lit (decR L:List α)).length true,[.live zs.length (rows (lit (decR L:List α)))]):=by
 have h:=okR_rows h0
 simp only [bslV,lit]
 rw [h]
 simp [decR,hn]
@[simp] theorem decR_nil:(decR []:List α)=[]:=rfl
@[simp] theorem decR_cons (c:List TV) (L:List (List TV)):(decR (c::L):List α)=Cel.dec c::decR L:=rfl
def mkL {β:Type} (bs:Nat) (n c:Int) (z:β):Option (List β):=if 0≤n∧n=c∧c.toNat * bs≤maxRow∧c.toNat≤maxRow then some (List.replicate n.toNat z) else none
def bytL (s:Str):Option (List Bt):=if s.length≤maxRow then some (s.map Bt.mk) else none
@[simp] theorem bytesV_bt (b:Nat) (s:Str):bytesV b (.str s)=(bytL s).map fun l=>(.hs b 0 l.length false,[.live 1 (rows l)]):=by
 rw [bytesV_str]
 unfold bytL
 split
 ·simp only [Option.map_some,List.length_map,rows,List.map_map];rfl
 ·rfl
theorem mksliceV_typed {z:α} {zs:List TV} (hz:Cel.enc z=zs.map unnil) (h0:0 < zs.length) (hp:zs.all plain=true) (b bs:Nat) (k k':IntKind) (n c:Int):mksliceV b bs zs (.int k n) (.int k' c)=(mkL bs n c z).map fun l=>(.hs b 0 l.length true,[.live zs.length (rows l)]):=by
 simp only [mksliceV,mkL,h0,hp,true_and,and_true]
 split
 ·simp [rows,hz]
 ·rfl
def subL {β:Type} (l:List β) (lo hi:Option Int):Option (List β):=match bound hi l.length l.length with
 | none=>none
 | some h=>match bound lo h 0 with
  | none=>none
  | some a=>some ((l.take h).drop a)
theorem bound_top {v:Option Int} {top dflt r:Nat} (h:bound v top dflt=some r) (hd:dflt≤top):r≤top:=by
 unfold bound at h
 split at h
 ·cases h;exact hd
 ·split at h
  ·cases h;omega
  ·cases h
@[simp] theorem sliceT_vs (lo hi:Option Int):sliceT (.vs (rows l)) lo hi none=(subL l lo hi).map fun r=>.vs (rows r):=by
 simp only [sliceT,lenT,subL,bound,rows_length]
 cases hh:bound hi l.length l.length with
 | none=>unfold bound at hh;simp only [hh];rfl
 | some h =>
  have h1:=hh
  unfold bound at h1
  simp only [h1]
  cases ha:bound lo h 0 with
  | none=>unfold bound at ha;simp only [ha];rfl
  | some a =>
   have h2:=ha
   unfold bound at h2
   simp only [h2]
   have:=bound_top ha (Nat.zero_le _)
   rw [if_neg (by simp;omega)]
   simp [cutT]
@[simp] theorem sliceT_str (s:Str) (lo hi:Option Int):sliceT (.str s) lo hi none=(subL s lo hi).map fun r=>.str r:=by
 simp only [sliceT,lenT,subL,bound]
 cases hh:bound hi s.length s.length with
 | none=>unfold bound at hh;simp only [hh];rfl
 | some h =>
  have h1:=hh
  unfold bound at h1
  simp only [h1]
  cases ha:bound lo h 0 with
  | none=>unfold bound at ha;simp only [ha];rfl
  | some a =>
   have h2:=ha
   unfold bound at h2
   simp only [h2]
   have:=bound_top ha (Nat.zero_le _)
   rw [if_neg (by simp;omega)]
   simp [cutT]
@[simp] theorem szBad_vs {sz:Nat} (h:Cel.sz α=sz):szBad H sz (.vs (rows l))=false:=by
 simp only [szBad,rows_len_all l h];rfl
@[simp] theorem strV_nil:strV (some [])=some (.str []):=rfl
@[simp] theorem elems_str (s:Str):elems H (.str s)=some (rows (s.map Bt.mk)):=by simp [elems,rows]
@[simp] theorem strV_bt (l:List Bt):strV (some (rows l))=some (.str (l.map Bt.v)):=by
 simp only [strV,rows]
 have:∀ l:List Bt,allSome ((l.map Cel.enc).map toByte)=some (l.map Bt.v):=fun l=>by
  induction l with
  | nil=>rfl
  | cons x l ih=>simp only [List.map_cons,enc_bt,toByte,allSome,ih];simp
 rw [this];rfl
end
def shlV (k:IntKind) (x y:Int):Int:=k.wrap (x * 2 ^ (min y.toNat k.bits))
def shrV (k:IntKind) (x y:Int):Int:=x.fdiv (2 ^ (min y.toNat k.bits))
def bitV (op:BinOp) (k:IntKind) (x y:Int):Int:=(bitsI op k x y).getD 0
@[simp] theorem shiftI_shl (k:IntKind) (x y:Int):shiftI .shl k x y=if y < 0 then none else some (shlV k x y):=rfl
@[simp] theorem shiftI_shr (k:IntKind) (x y:Int):shiftI .shr k x y=if y < 0 then none else some (shrV k x y):=rfl
@[simp] theorem bitsI_and (k:IntKind) (x y:Int):bitsI .and k x y=some (bitV .and k x y):=rfl
@[simp] theorem bitsI_or (k:IntKind) (x y:Int):bitsI .or k x y=some (bitV .or k x y):=rfl
@[simp] theorem bitsI_xor (k:IntKind) (x y:Int):bitsI .xor k x y=some (bitV .xor k x y):=rfl
@[simp] theorem bitsI_andNot (k:IntKind) (x y:Int):bitsI .andNot k x y=some (bitV .andNot k x y):=rfl
@[simp] theorem u8_shlV (x y:Int):max (shlV .u8 x y) 0 % 256=shlV .u8 x y:=u8_wrap _
@[simp] theorem u8_bitV (op:BinOp) (x y:Int):max (bitV op .u8 x y) 0 % 256=bitV op .u8 x y:=by
 unfold bitV bitsI
 cases op <;> first | exact u8_wrap _ | rfl
@[simp] theorem ite_tint {c:Prop} [Decidable c] (k:IntKind) (a b:Int):(if c then TV.int k a else TV.int k b)=TV.int k (if c then a else b):=by split <;> rfl
@[simp] theorem ite_tbool {c:Prop} [Decidable c] (a b:Bool):(if c then TV.bool a else TV.bool b)=TV.bool (if c then a else b):=by split <;> rfl
@[simp] theorem ob_inj_iff {α:Type} [Cel α] {sz:Nat} {a b:List α}:ob sz a=ob sz b ↔ a=b:=⟨ob_inj,fun h=>by rw [h]⟩
section
variable (rec:TC→Env→Heap→Option Out) (S:Sys) (e:Env) (H:Heap) (b:Nat)
def mmV (m:Bool) (x y:TV):Option TV:=match x,y with | .int k a,.int k' b=>if k=k' then some (.int k (if m then max a b else min a b)) else none | _,_=>none
@[simp] theorem mmV_int (m:Bool) (k k':IntKind) (x y:Int):mmV m (.int k x) (.int k' y)=if k=k' then some (.int k (if m=true then max x y else min x y)) else none:=rfl
@[simp] theorem sA_mm (m:Bool) (x y:Opd):opA S e H b (.mm m x y)=val0 (mmV m (ev e x) (ev e y)):=by
 simp only [opA,mmV]
 generalize ev e x=v
 generalize ev e y=u
 cases v <;> cases u <;> try rfl
 simp only [];split <;> rfl
@[simp] theorem sR_mm (m:Bool) (x y:Opd):runOp rec S e H (.mm m x y)=valH H (mmV m (ev e x) (ev e y)):=sA_val _ _ _ _ (fun b=>sA_mm S e H b m x y) rfl
def sliceV (H:Heap) (sz:Nat) (v:TV) (lo hi mx:Option (Option Int)):Option TV:=match lo,hi,mx with
 | some l,some h,some m=>if szBad H sz v then none else sliceA v l h m
 | _,_,_=>none
@[simp] theorem sliceV_some (sz:Nat) (v:TV) (l h m:Option Int):sliceV H sz v (some l) (some h) (some m)=if szBad H sz v=true then none else sliceA v l h m:=rfl
@[simp] theorem sliceA_hc (id off len cap:Nat) (l h m:Option Int):sliceA (.hc id off len cap) l h m=sliceC id off len cap l h m:=rfl
@[simp] theorem sliceA_hs (id off len:Nat) (f:Bool) (l h m:Option Int):sliceA (.hs id off len f) l h m=sliceT (.hs id off len f) l h m:=rfl
@[simp] theorem sliceA_vs (x:List (List TV)) (l h m:Option Int):sliceA (.vs x) l h m=sliceT (.vs x) l h m:=rfl
@[simp] theorem sliceA_es (l h m:Option Int):sliceA .es l h m=sliceT .es l h m:=rfl
@[simp] theorem sliceA_nils (l h m:Option Int):sliceA .nils l h m=sliceT .nils l h m:=rfl
@[simp] theorem sliceA_ow (id n:Nat) (l h m:Option Int):sliceA (ow id n) l h m=sliceT (ow id n) l h m:=by unfold ow;split <;> rfl
@[simp] theorem sA_slice (sz:Nat) (x:Opd) (lo hi mx:Option Opd):opA S e H b (.slice sz x lo hi mx)=val0 (sliceV H sz (ev e x) (intOf? e lo) (intOf? e hi) (intOf? e mx)):=by
 simp only [opA,sliceV]
 cases intOf? e lo <;> cases intOf? e hi <;> cases intOf? e mx <;> try rfl
 simp only [];split <;> rfl
@[simp] theorem sR_slice (sz:Nat) (x:Opd) (lo hi mx:Option Opd):runOp rec S e H (.slice sz x lo hi mx)=valH H (sliceV H sz (ev e x) (intOf? e lo) (intOf? e hi) (intOf? e mx)):=sA_val _ _ _ _ (fun b=>sA_slice S e H b sz x lo hi mx) rfl
def sliceSV (v:TV) (lo hi:Option (Option Int)):Option TV:=match v,lo,hi with
 | .str s,some l,some h=>sliceT (.str s) l h none
 | _,_,_=>none
@[simp] theorem sliceSV_str (s:Str) (l h:Option Int):sliceSV (.str s) (some l) (some h)=sliceT (.str s) l h none:=rfl
@[simp] theorem sA_sliceS (x:Opd) (lo hi:Option Opd):opA S e H b (.sliceS x lo hi)=val0 (sliceSV (ev e x) (intOf? e lo) (intOf? e hi)):=by
 simp only [opA,sliceSV]
 generalize ev e x=v
 cases v <;> cases intOf? e lo <;> cases intOf? e hi <;> rfl
@[simp] theorem sR_sliceS (x:Opd) (lo hi:Option Opd):runOp rec S e H (.sliceS x lo hi)=valH H (sliceSV (ev e x) (intOf? e lo) (intOf? e hi)):=sA_val _ _ _ _ (fun b=>sA_sliceS S e H b x lo hi) rfl
def intO (v:TV):Option (Option Int):=match v with | .int _ n=>some (some n) | _=>none
@[simp] theorem intO_int (k:IntKind) (n:Int):intO (.int k n)=some (some n):=rfl
@[simp] theorem intOf_none:intOf? e none=some none:=rfl
@[simp] theorem intOf_some (x:Opd):intOf? e (some x)=intO (ev e x):=by simp only [intOf?,intO];rfl
end
section
variable {β γ δ:Type}
theorem map_to_bind (f:β→γ) (o:Option β):o.map f=o.bind fun x=>some (f x):=by cases o <;> rfl
@[simp] theorem map_ite' {c:Prop} [Decidable c] (f:β→γ) (x y:Option β):Option.map f (if c then x else y)=if c then Option.map f x else Option.map f y:=by split <;> rfl
@[simp] theorem bind_ite' {c:Prop} [Decidable c] (x y:Option β) (f:β→Option γ):Option.bind (if c then x else y) f=if c then Option.bind x f else Option.bind y f:=by split <;> rfl
@[simp] theorem map_bind' (o:Option β) (f:β→Option γ) (g:γ→δ):Option.map g (o.bind f)=o.bind fun x=>Option.map g (f x):=by cases o <;> rfl
@[simp] theorem bind_map' (o:Option β) (f:β→γ) (g:γ→Option δ):(o.map f).bind g=o.bind fun x=>g (f x):=by cases o <;> rfl
@[simp] theorem bind_bind' (o:Option β) (f:β→Option γ) (g:γ→Option δ):(o.bind f).bind g=o.bind fun x=>(f x).bind g:=by cases o <;> rfl
@[simp] theorem map_map' (o:Option β) (f:β→γ) (g:γ→δ):(o.map f).map g=o.map fun x=>g (f x):=by cases o <;> rfl
@[simp] theorem valH_map (H:Heap) (f:β→TV) (o:Option β):valH H (o.map f)=o.map fun x=>(f x,H):=by cases o <;> rfl
@[simp] theorem val0_map (f:β→TV) (o:Option β):val0 (o.map f)=o.map fun x=>(f x,[]):=by cases o <;> rfl
@[simp] theorem valH_bind (H:Heap) (f:β→Option TV) (o:Option β):valH H (o.bind f)=o.bind fun x=>valH H (f x):=by cases o <;> rfl
@[simp] theorem val0_bind (f:β→Option TV) (o:Option β):val0 (o.bind f)=o.bind fun x=>val0 (f x):=by cases o <;> rfl
@[simp] theorem blkH_map (H:Heap) (f:β→TV×List Blk) (o:Option β):blkH H (o.map f)=o.map fun x=>((f x).1,H++(f x).2):=by cases o <;> rfl
@[simp] theorem blkH_bind (H:Heap) (f:β→Option (TV×List Blk)) (o:Option β):blkH H (o.bind f)=o.bind fun x=>blkH H (f x):=by cases o <;> rfl
@[simp] theorem thenOps_map {κ:Type} (f:β→TV×γ) (o:Option β) (k:TV→γ→Option κ):thenOps (o.map f) k=o.bind fun x=>k (f x).1 (f x).2:=by cases o <;> rfl
@[simp] theorem thenOps_bind {κ:Type} (f:β→Option (TV×γ)) (o:Option β) (k:TV→γ→Option κ):thenOps (o.bind f) k=o.bind fun x=>thenOps (f x) k:=by cases o <;> rfl
@[simp] theorem nrmOut_bind (f:β→Option (Env×Heap)) (o:Option β):nrmOut (o.bind f)=o.bind fun x=>nrmOut (f x):=by cases o <;> rfl
@[simp] theorem thenF_bind (f:β→Option (Env×Heap)) (o:Option β) (k:Env→Heap→Option Out):thenF (o.bind f) k=o.bind fun x=>thenF (f x) k:=by cases o <;> rfl
@[simp] theorem thenDraw_bind (f:β→Option (Env×List (List Blk))) (o:Option β) (k:Env→List (List Blk)→Option Out):thenDraw (o.bind f) k=o.bind fun x=>thenDraw (f x) k:=by cases o <;> rfl
@[simp] theorem thenSeq_bind (f:β→Option Out) (o:Option β) (k:Env→Heap→Option Out):thenSeq (o.bind f) k=o.bind fun x=>thenSeq (f x) k:=by cases o <;> rfl
@[simp] theorem thenSeq_map (f:β→Out) (o:Option β) (k:Env→Heap→Option Out):thenSeq (o.map f) k=o.bind fun x=>thenSeq (some (f x)) k:=by cases o <;> rfl
@[simp] theorem endBlock_bind (id:Nat) (f:β→Option Out) (o:Option β):endBlock id (o.bind f)=o.bind fun x=>endBlock id (f x):=by cases o <;> rfl
@[simp] theorem endBlock_map (id:Nat) (f:β→Out) (o:Option β):endBlock id (o.map f)=o.bind fun x=>endBlock id (some (f x)):=by cases o <;> rfl
@[simp] theorem finish_bind (rs:List TRes) (f:β→Option Out) (o:Option β):finish rs (o.bind f)=o.bind fun x=>finish rs (f x):=by cases o <;> rfl
@[simp] theorem finish_map (rs:List TRes) (f:β→Out) (o:Option β):finish rs (o.map f)=o.bind fun x=>finish rs (some (f x)):=by cases o <;> rfl
-- an outcome of several kinds
variable {σ τ:Type} (a:σ→β) (b:τ→β) (r:σ ⊕ τ)
@[simp] theorem thenSeq_elim (a:σ→Out) (b:τ→Out) (k:Env→Heap→Option Out):thenSeq (some (Sum.elim a b r)) k=Sum.elim (fun x=>thenSeq (some (a x)) k) (fun x=>thenSeq (some (b x)) k) r:=by cases r <;> rfl
@[simp] theorem thenSeq_elim' (a:σ→Option Out) (b:τ→Option Out) (k:Env→Heap→Option Out):thenSeq (Sum.elim a b r) k=Sum.elim (fun x=>thenSeq (a x) k) (fun x=>thenSeq (b x) k) r:=by cases r <;> rfl
@[simp] theorem endBlock_elim (id:Nat) (a:σ→Out) (b:τ→Out):endBlock id (some (Sum.elim a b r))=Sum.elim (fun x=>endBlock id (some (a x))) (fun x=>endBlock id (some (b x))) r:=by cases r <;> rfl
@[simp] theorem endBlock_elim' (id:Nat) (a:σ→Option Out) (b:τ→Option Out):endBlock id (Sum.elim a b r)=Sum.elim (fun x=>endBlock id (a x)) (fun x=>endBlock id (b x)) r:=by cases r <;> rfl
@[simp] theorem finish_elim (rs:List TRes) (a:σ→Out) (b:τ→Out):finish rs (some (Sum.elim a b r))=Sum.elim (fun x=>finish rs (some (a x))) (fun x=>finish rs (some (b x))) r:=by cases r <;> rfl
@[simp] theorem finish_elim' (rs:List TRes) (a:σ→Option Out) (b:τ→Option Out):finish rs (Sum.elim a b r)=Sum.elim (fun x=>finish rs (a x)) (fun x=>finish rs (b x)) r:=by cases r <;> rfl
@[simp] theorem map_elim (f:γ→δ) (a:σ→Option γ) (b:τ→Option γ):Option.map f (Sum.elim a b r)=Sum.elim (fun x=>Option.map f (a x)) (fun x=>Option.map f (b x)) r:=by cases r <;> rfl
@[simp] theorem bind_elim (f:γ→Option δ) (a:σ→Option γ) (b:τ→Option γ):Option.bind (Sum.elim a b r) f=Sum.elim (fun x=>Option.bind (a x) f) (fun x=>Option.bind (b x) f) r:=by cases r <;> rfl
end
@[simp] theorem X_trim (S:Sys) (l:List Nat) (b:TC) (e:Env) (H:Heap):X S (.trim l b) e H=X S b (keepEnv l e) H:=by
 rw [X_unfold,X_unfold S b]
 rfl
@[simp] theorem X_fz (S:Sys) (t:Nat) (l:List Nat) (b:TC) (e:Env) (H:Heap):X S (.fz t l b) e H=X S b (put e (some t) (reify (onlyB l 0 H) 4 (get e t))) (killB l 0 H):=by
 rw [X_unfold,X_unfold S b]
 rfl
def thenKeep (r:Option (Env×Heap)) (k:Env→Heap→Option Out):Option Out:=match r with | some (e,H)=>k e H | none=>none
@[simp] theorem thenKeep_some (e:Env) (H:Heap) (k:Env→Heap→Option Out):thenKeep (some (e,H)) k=k e H:=rfl
@[simp] theorem X_keep (S:Sys) (k:KT) (b:TC) (e:Env) (H:Heap):X S (.keep k b) e H=thenKeep (keepS k e H) (X S b):=by
 rw [X_unfold]
 simp only [execF,thenKeep]
 cases keepS k e H with
 | none=>rfl
 | some p=>simp only [← X_unfold]
def afterK (k:KT) (r:Option Out):Option Out:=match r with | some (.nrm,e,H)=>nrmOut (keepS k e H) | r=>r
@[simp] theorem X_after (S:Sys) (k:KT) (b:TC) (e:Env) (H:Heap):X S (.after b k) e H=afterK k (X S b e H):=by
 rw [X_unfold,X_unfold S b]
 simp only [execF,afterK]
 split
 ·rename_i e' H' h;rw [h];simp only [nrmOut];rfl
 ·rename_i h
  split
  ·rename_i e' H' h2;exact absurd h2 (h e' H')
  ·rfl
@[simp] theorem afterK_nrm (k:KT) (e:Env) (H:Heap):afterK k (some (.nrm,e,H))=nrmOut (keepS k e H):=rfl
@[simp] theorem afterK_ret (k:KT) (e:Env) (H:Heap):afterK k (some (.ret,e,H))=some (.ret,e,H):=rfl
@[simp] theorem afterK_ext (k:KT) (id:Nat) (e:Env) (H:Heap):afterK k (some (.ext id,e,H))=some (.ext id,e,H):=rfl
@[simp] theorem afterK_none (k:KT):afterK k none=none:=rfl
@[simp] theorem afterK_ite {c:Prop} [Decidable c] (k:KT) (x y:Option Out):afterK k (if c then x else y)=if c then afterK k x else afterK k y:=by split <;> rfl
@[simp] theorem afterK_bind {β:Type} (k:KT) (f:β→Option Out) (o:Option β):afterK k (o.bind f)=o.bind fun x=>afterK k (f x):=by cases o <;> rfl
@[simp] theorem afterK_map {β:Type} (k:KT) (f:β→Out) (o:Option β):afterK k (o.map f)=o.bind fun x=>afterK k (some (f x)):=by cases o <;> rfl
@[simp] theorem afterK_elim {σ τ:Type} (k:KT) (a:σ→Out) (b:τ→Out) (r:σ ⊕ τ):afterK k (some (Sum.elim a b r))=Sum.elim (fun x=>afterK k (some (a x))) (fun x=>afterK k (some (b x))) r:=by cases r <;> rfl
@[simp] theorem afterK_elim' {σ τ:Type} (k:KT) (a:σ→Option Out) (b:τ→Option Out) (r:σ ⊕ τ):afterK k (Sum.elim a b r)=Sum.elim (fun x=>afterK k (a x)) (fun x=>afterK k (b x)) r:=by cases r <;> rfl
@[congr] theorem afterK_congr {k:KT} {r r':Option Out} (h:r=r'):afterK k r=afterK k r':=by rw [h]
@[congr] theorem thenKeep_congr {r r':Option (Env×Heap)} {k:Env→Heap→Option Out} (h:r=r'):thenKeep r k=thenKeep r' k:=by rw [h]
@[simp] theorem range_2:List.range 2=[0,1]:=rfl
@[simp] theorem range_3:List.range 3=[0,1,2]:=rfl
@[simp] theorem range_4:List.range 4=[0,1,2,3]:=rfl
@[simp] theorem range_5:List.range 5=[0,1,2,3,4]:=rfl
@[simp] theorem range_6:List.range 6=[0,1,2,3,4,5]:=rfl
@[simp] theorem range_7:List.range 7=[0,1,2,3,4,5,6]:=rfl
@[simp] theorem range_8:List.range 8=[0,1,2,3,4,5,6,7]:=rfl
@[simp] theorem range_9:List.range 9=[0,1,2,3,4,5,6,7,8]:=rfl
@[simp] theorem range_10:List.range 10=[0,1,2,3,4,5,6,7,8,9]:=rfl
@[simp] theorem range_11:List.range 11=[0,1,2,3,4,5,6,7,8,9,10]:=rfl
@[simp] theorem range_12:List.range 12=[0,1,2,3,4,5,6,7,8,9,10,11]:=rfl
attribute [simp] keepS keepS1 splice
@[simp] theorem nrmOut_map {β:Type} (f:β→Env×Heap) (o:Option β):nrmOut (o.map f)=o.bind fun x=>nrmOut (some (f x)):=by cases o <;> rfl
def retM (H:Heap) (p:Nat) (ids:List Nat) (r:Option (TV×List Blk)):Option (TV×Heap):=match r with
 | some (r,N)=>some (ren (fun k=>some (backOf H.length (ids.take p) k)) 2 r,layB (killB (ids.drop p) 0 H) (ids.take p) (N.map (renB fun k=>some (backOf H.length (ids.take p) k)))++(N.drop (ids.take p).length).map (renB fun k=>some (backOf H.length (ids.take p) k)))
 | none=>none
@[simp] theorem retM_some (H:Heap) (p:Nat) (ids:List Nat) (r:TV) (N:List Blk):retM H p ids (some (r,N))=some (ren (fun k=>some (backOf H.length (ids.take p) k)) 2 r,layB (killB (ids.drop p) 0 H) (ids.take p) (N.map (renB fun k=>some (backOf H.length (ids.take p) k)))++(N.drop (ids.take p).length).map (renB fun k=>some (backOf H.length (ids.take p) k))):=rfl
@[simp] theorem retM_map {β:Type} (H:Heap) (p:Nat) (ids:List Nat) (f:β→TV×List Blk) (o:Option β):retM H p ids (o.map f)=o.bind fun x=>retM H p ids (some (f x)):=by cases o <;> rfl
@[simp] theorem retM_none (H:Heap) (p:Nat) (ids:List Nat):retM H p ids none=none:=rfl
@[simp] theorem retM_bind {β:Type} (H:Heap) (p:Nat) (ids:List Nat) (f:β→Option (TV×List Blk)) (o:Option β):retM H p ids (o.bind f)=o.bind fun x=>retM H p ids (f x):=by cases o <;> rfl
@[simp] theorem retM_ite {c:Prop} [Decidable c] (H:Heap) (p:Nat) (ids:List Nat) (x y:Option (TV×List Blk)):retM H p ids (if c then x else y)=if c then retM H p ids x else retM H p ids y:=by split <;> rfl
@[simp] theorem retR_none (base:Nat) (vs:List TV):retR base vs none=none:=rfl
@[simp] theorem retR_bind {β:Type} (base:Nat) (vs:List TV) (f:β→Option (TV×List Blk)) (o:Option β):retR base vs (o.bind f)=o.bind fun x=>retR base vs (f x):=by cases o <;> rfl
@[simp] theorem retR_ite {c:Prop} [Decidable c] (base:Nat) (vs:List TV) (x y:Option (TV×List Blk)):retR base vs (if c then x else y)=if c then retR base vs x else retR base vs y:=by split <;> rfl
def callMV (H:Heap) (ids:List Nat) (vs:List TV) (F:Option (Nat×MRule)):Option (TV×Heap):=match F with
 | some (p,F)=>if noDup ids=true∧ids.all (fun x=>decide (x < H.length))=true then retM H p ids (F (vs.map (ren (posOf ids) 4)) (keepH H ids)) else none
 | none=>none
@[simp] theorem callMV_some (H:Heap) (p:Nat) (ids:List Nat) (vs:List TV) (F:MRule):callMV H ids vs (some (p,F))=if noDup ids=true∧ids.all (fun x=>decide (x < H.length))=true then retM H p ids (F (vs.map (ren (posOf ids) 4)) (keepH H ids)) else none:=rfl
theorem callM_eq (S:Sys) (H:Heap) (f tag:Nat) (ids:List Nat) (vs:List TV):callM S H f tag ids vs=callMV H ids vs (S.mrule f tag):=by
 unfold callM callMV retM
 cases S.mrule f tag with
 | none=>rfl
 | some pF =>
  obtain ⟨p,F⟩:=pF
  simp only []
  split
  ·cases F (List.map (ren (posOf ids) 4) vs) (keepH H ids) <;> rfl
  ·rfl
@[simp] theorem sR_callM (rec:TC→Env→Heap→Option Out) (S:Sys) (e:Env) (H:Heap) (f tag:Nat) (ids:List Nat) (as:List Opd):runOp rec S e H (.callM f tag ids as)=callMV H ids (as.map (ev e)) (S.mrule f tag):=callM_eq S H f tag ids _
def callvMV (S:Sys) (H:Heap) (tag:Nat) (ids:List Nat) (fv:TV) (vs:List TV):Option (TV×Heap):=match fv with
 | .fn g a b=>callMV H ids (a++vs++b) (S.mrule g tag)
 | _=>none
@[simp] theorem callvMV_fn (S:Sys) (H:Heap) (tag:Nat) (ids:List Nat) (g:Nat) (a b vs:List TV):callvMV S H tag ids (.fn g a b) vs=callMV H ids (a++vs++b) (S.mrule g tag):=rfl
@[simp] theorem sR_callvM (rec:TC→Env→Heap→Option Out) (S:Sys) (e:Env) (H:Heap) (f:Opd) (tag:Nat) (ids:List Nat) (as:List Opd):runOp rec S e H (.callvM f tag ids as)=callvMV S H tag ids (ev e f) (as.map (ev e)):=by
 simp only [runOp,callvMV]
 split <;> simp_all [callM_eq]
def cutO {β:Type} (l:List β) (lo hi:Option Int):Option (List β):=(subL l lo hi).bind fun r=>if r=[] then none else some r
theorem subL_map {β γ:Type} (f:β→γ) (l:List β) (lo hi:Option Int):subL (l.map f) lo hi=(subL l lo hi).map (List.map f):=by
 unfold subL
 rw [List.length_map]
 cases bound hi l.length l.length with
 | none=>rfl
 | some h =>
  dsimp only
  cases bound lo h 0 with
  | none=>rfl
  | some a=>simp [List.map_take,List.map_drop]
theorem cutO_rows {α:Type} [Cel α] (l:List α) (lo hi:Option Int):cutO (rows l) lo hi=(cutO l lo hi).map rows:=by
 unfold cutO
 rw [show rows l=l.map Cel.enc from rfl,subL_map]
 cases subL l lo hi with
 | none=>rfl
 | some r=>cases r <;> simp [rows]
def recT (H:Heap) (sz:Nat) (v:TV) (lo hi:Option (Option Int)):Option (TV×Heap):=match lo,hi with
 | some l,some h=>if szBad H sz v then none else match sliceA v l h none with | some r=>anch H r | none=>none
 | _,_=>none
@[simp] theorem sR_recut (rec:TC→Env→Heap→Option Out) (S:Sys) (e:Env) (H:Heap) (sz:Nat) (x:Opd) (lo hi:Option Opd):runOp rec S e H (.recut sz x lo hi)=recT H sz (ev e x) (intOf? e lo) (intOf? e hi):=by
 simp only [runOp,opA,recT,show intOf? e none=some none from rfl]
 cases intOf? e lo with
 | none=>rfl
 | some l=>cases intOf? e hi with
  | none=>rfl
  | some h =>
   simp only []
   by_cases hb:szBad H sz (ev e x)=true
   ·simp [hb]
   ·simp only [hb]
    cases sliceA (ev e x) l h none <;> rfl
theorem recT_rows {H:Heap} {sz id:Nat} {L:List (List TV)} (hb:H[id]?=some (if L=[] then .dead else .live sz L)) (lo hi:Option Int) :
  recT H sz (ow id L.length) (some lo) (some hi)=(cutO L lo hi).map fun r=>(.hs H.length 0 r.length false,H.set id .dead++[.live sz r]):=by
 cases L with
 | nil =>
  have h1:cutO ([]:List (List TV)) lo hi=none:=by
   unfold cutO subL
   cases bound hi 0 0 with
   | none=>rfl
   | some h=>dsimp only;cases bound lo h 0 <;> simp
  simp only [recT,List.length_nil,ow_zero,szBad,h1,Option.map_none]
  cases hs:sliceA .es lo hi none with
  | none=>rfl
  | some r =>
   have:r=.es:=by
    simp only [sliceA,sliceT,lenT] at hs
    split at hs
    ·cases hs
    ·split at hs
     ·cases hs
     ·split at hs
      ·cases hs
      ·split at hs
       ·cases hs
       ·simp only [cutT,Option.some.injEq] at hs;exact hs.symm
   subst this;rfl
 | cons x L =>
  rw [if_neg (by simp)] at hb
  generalize hM:x::L=M at hb ⊢
  have hpos:0 < M.length:=by rw [← hM];simp
  have how:ow id M.length=.hs id 0 M.length false:=by unfold ow;rw [if_neg (by omega)]
  simp only [recT,how,szBad,hb,bne_self_eq_false,Bool.false_eq_true,if_false,sliceA,sliceT,lenT,cutO,subL,show bound none M.length M.length=some M.length from rfl]
  cases hh:bound hi M.length M.length with
  | none=>rfl
  | some h =>
   have h1:=bound_top hh (Nat.le_refl _)
   dsimp only
   cases ha:bound lo h 0 with
   | none=>rfl
   | some a =>
    have h2:=bound_top ha (Nat.zero_le _)
    dsimp only
    simp only [Option.isSome_none,Bool.false_eq_true,false_and,or_false,Option.bind_some]
    rw [if_neg (by omega)]
    simp only [cutT,Bool.false_and,Bool.false_eq_true,if_false,anch,hb,Nat.zero_add]
    have hl:((M.take h).drop a).length=h - a:=by simp;omega
    by_cases hz:h - a=0
    ·rw [if_neg (by omega),if_pos (List.eq_nil_of_length_eq_zero (by omega))];rfl
    ·rw [if_pos ⟨by omega,by omega⟩,if_neg (fun hn=>by rw [hn] at hl;simp at hl;omega)]
     simp only [Option.map_some,hl]
     rw [List.take_drop,show a+(h - a)=h by omega]
noncomputable def recB (H:Heap) (sz id n:Nat) (b:Option Blk) (lo hi:Option Int):Option (TV×Heap):=open Classical in
 if h:∃ L:List (List TV),b=some (if L=[] then .dead else .live sz L)∧n=L.length then (cutO h.choose lo hi).map fun r=>(.hs H.length 0 r.length false,H.set id .dead++[.live sz r]) else recT H sz (ow id n) (some lo) (some hi)
@[simp] theorem recT_ow (H:Heap) (sz id n:Nat) (lo hi:Option Int):recT H sz (ow id n) (some lo) (some hi)=recB H sz id n H[id]? lo hi:=by
 unfold recB
 split
 ·rename_i hx
  have h1:=hx.choose_spec
  revert h1
  generalize hx.choose=L
  rintro ⟨h1,rfl⟩
  exact recT_rows h1 lo hi
 ·rfl
@[simp] theorem recB_ob {α:Type} [Cel α] {n:Nat} (H:Heap) (sz id:Nat) (l:List α) (lo hi:Option Int) (h:n=l.length):recB H sz id n (some (ob sz l)) lo hi=(cutO l lo hi).map fun r=>(ow H.length r.length,H.set id .dead++[ob sz r]):=by
 have hx:∃ L:List (List TV),(some (ob sz l))=some (if L=[] then .dead else .live sz L)∧n=L.length:=⟨rows l,by cases l <;> simp [ob,rows],by rw [h];simp [rows]⟩
 unfold recB
 rw [dif_pos hx]
 have h1:=hx.choose_spec
 revert h1
 generalize hx.choose=L
 rintro ⟨h1,h2⟩
 have hL:L=rows l:=by
  cases l with
  | nil=>rw [h] at h2;exact List.eq_nil_of_length_eq_zero h2.symm
  | cons x l =>
   cases L with
   | nil=>rw [h] at h2;simp at h2
   | cons y L=>simp [ob] at h1;exact h1.symm
 subst hL
 rw [cutO_rows]
 unfold cutO
 cases subL l lo hi with
 | none=>rfl
 | some r=>cases r with
  | nil=>simp
  | cons x r=>simp [ow,ob,rows]
@[simp] theorem sR_frz (rec:TC→Env→Heap→Option Out) (S:Sys) (e:Env) (H:Heap) (ids:List Nat) (x:Opd):runOp rec S e H (.frz ids x)=some (reify (onlyB ids 0 H) 4 (ev e x),killB ids 0 H):=rfl
@[simp] theorem retR_map {β:Type} (base:Nat) (vs:List TV) (f:β→TV×List Blk) (o:Option β):retR base vs (o.map f)=o.bind fun x=>retR base vs (some (f x)):=by cases o <;> rfl
def fixLen {α:Type} (l0 l:List α):List α:=if l.length=l0.length then l else l0
@[simp] theorem fixLen_length {α:Type} (l0 l:List α):(fixLen l0 l).length=l0.length:=by unfold fixLen;split <;> simp_all
theorem fixLen_eq {α:Type} {l0 l:List α} (h:l.length=l0.length):fixLen l0 l=l:=if_pos h
noncomputable def RlO {α β:Type} (enc:α→List TV) (g:α→Option β) (out:β→TV×List Blk):Rule:=fun ts =>
 open Classical in if h:∃ a,enc a=ts then (g h.choose).map out else none
theorem RlO_app {α β:Type} {enc:α→List TV} {g:α→Option β} {out:β→TV×List Blk} (hinj:∀ a b,enc a=enc b→a=b) (a:α):RlO enc g out (enc a)=(g a).map out:=by
 unfold RlO
 have hx:∃ b,enc b=enc a:=⟨a,rfl⟩
 rw [dif_pos hx,hinj _ _ hx.choose_spec]
noncomputable def RmO {α β:Type} (enc:α→List TV) (encB:α→List Blk) (g:α→Option β) (out:β→TV×List Blk):MRule:=fun ts B =>
 open Classical in if h:∃ a,enc a=ts∧encB a=B then (g h.choose).map out else none
theorem RmO_app {α β:Type} {enc:α→List TV} {encB:α→List Blk} {g:α→Option β} {out:β→TV×List Blk} (hinj:∀ a b,enc a=enc b→encB a=encB b→a=b) (a:α):RmO enc encB g out (enc a) (encB a)=(g a).map out:=by
 unfold RmO
 have hx:∃ b,enc b=enc a∧encB b=encB a:=⟨a,rfl,rfl⟩
 rw [dif_pos hx,hinj _ _ hx.choose_spec.1 hx.choose_spec.2]
def assoc2 {β:Type} (n t:Nat):List ((Nat×Nat)×β)→Option β
 | []=>none
 | ((k,u),v)::r=>if k=n∧u=t then some v else assoc2 n t r
def Sys.on (rs:List (Nat×Rule)) (ms:List ((Nat×Nat)×(Nat×MRule))):Sys:=⟨fun n=>assoc n rs,fun _=>none,fun n t=>assoc2 n t ms,fun _=>none⟩
@[simp] theorem on_rule (rs:List (Nat×Rule)) (ms:List ((Nat×Nat)×(Nat×MRule))) (n:Nat):(Sys.on rs ms).rule n=assoc n rs:=rfl
@[simp] theorem on_fn (rs:List (Nat×Rule)) (ms:List ((Nat×Nat)×(Nat×MRule))) (n:Nat):(Sys.on rs ms).fn n=none:=rfl
@[simp] theorem on_mrule (rs:List (Nat×Rule)) (ms:List ((Nat×Nat)×(Nat×MRule))) (n t:Nat):(Sys.on rs ms).mrule n t=assoc2 n t ms:=rfl
attribute [simp] assoc assoc2
def MRulesOk (P:Program):List ((Nat×Nat)×(Nat×MRule))→Prop
 | []=>True
 | (n,F)::r=>MRuleOk P n.1 F.1 F.2∧MRulesOk P r
theorem SysOk.on {P:Program} {rs:List (Nat×Rule)} {ms:List ((Nat×Nat)×(Nat×MRule))} (hr:RulesOk P rs) (hm:MRulesOk P ms):SysOk P (Sys.on rs ms):=by
 refine ⟨fun f F h=>?_,fun f tf h=>(by cases h),fun f tag F h=>?_,fun f sz h=>(by cases h)⟩
 ·have h:assoc f rs=some F:=h
  induction rs with
  | nil=>cases h
  | cons p rs ih =>
   obtain ⟨k,v⟩:=p
   simp only [assoc] at h
   split at h
   ·rename_i hk;cases h;exact hk ▸ hr.1
   ·exact ih hr.2 h h
 ·have h:assoc2 f tag ms=some F:=h
  induction ms with
  | nil=>cases h
  | cons p ms ih =>
   obtain ⟨⟨k,u⟩,v⟩:=p
   simp only [assoc2] at h
   split at h
   ·rename_i hk;cases h;exact hk.1 ▸ hm.1
   ·exact ih hm.2 h h
section
variable {P:Program} {S:Sys} {α β:Type} {enc:α→List TV} {encB:α→List Blk} {g:α→Option β} {out:β→TV×List Blk} {f:Nat} {tf:TFn}
theorem ok_rlo (hS:SysOk P S) (hfn:FnOk P f tf) (h:∀ a,callFn (X S) tf (enc a) []=(g a).map out):RuleOk P f (RlO enc g out):=by
 refine RuleOk.keep hS hfn fun ts r N hF=>?_
 unfold RlO at hF
 split at hF
 ·rename_i hx
  rw [← h,hx.choose_spec] at hF
  exact hF
 ·cases hF
theorem ok_rmo {m:Nat} (hS:SysOk P S) (hfn:FnOk P f tf) (hpin:pinsOk m tf.code=true) (hm:∀ a,m≤(encB a).length) (hl:∀ b,m≤(out b).2.length) (h:∀ a,callFn (X S) tf (enc a) (encB a)=(g a).map out):MRuleOk P f m (RmO enc encB g out):=by
 refine MRuleOk.body hS hfn hpin fun ts B r N hF=>?_
 unfold RmO at hF
 split at hF
 ·rename_i hx
  obtain ⟨h1,h2⟩:=hx.choose_spec
  refine ⟨by rw [← h2];exact hm _,?_,?_⟩
  ·simp only [Option.map_eq_some_iff] at hF
   obtain ⟨b,_,hb⟩:=hF
   have:=hl b
   rw [hb] at this
   exact this
  ·rw [← h,h1,h2] at hF
   exact hF
 ·cases hF
end
theorem MRuleOk.weak {P:Program} {f p:Nat} {α β:Type} {enc:α→List TV} {encB:α→List Blk} {g g':α→Option β} {out:β→TV×List Blk} (h:MRuleOk P f p (RmO enc encB g out)) (hw:∀ a r,g' a=some r→g a=some r):MRuleOk P f p (RmO enc encB g' out):=by
 refine ⟨h.1,fun ts B r N hF=>h.2 ts B r N ?_⟩
 unfold RmO at hF ⊢
 split at hF
 ·rename_i hx
  rw [dif_pos hx]
  simp only [Option.map_eq_some_iff] at hF ⊢
  obtain ⟨b,hb,he⟩:=hF
  exact ⟨b,hw _ _ hb,he⟩
 ·cases hF
def iter {σ ρ:Type} (b:σ→Option (σ ⊕ ρ)):Nat→σ→Option ρ
 | 0,_=>none
 | n+1,s=>match b s with
  | some (.inl s')=>iter b n s'
  | some (.inr r)=>some r
  | none=>none
theorem iter_succ {σ ρ:Type} (b:σ→Option (σ ⊕ ρ)):∀ n s r,iter b n s=some r→iter b (n+1) s=some r
 | 0,_,_,h=>by cases h
 | n+1,s,r,h=>by
  cases hb:b s with
  | none=>simp only [iter,hb] at h;cases h
  | some x =>
   cases x with
   | inl s' =>
    have h1:iter b n s'=some r:=by simpa only [iter,hb] using h
    have:=iter_succ b n s' r h1
    show iter b (n+1+1) s=some r
    rw [iter,hb];exact this
   | inr r' =>
    have h1:some r'=some r:=by simpa only [iter,hb] using h
    rw [iter,hb];exact h1
theorem iter_add {σ ρ:Type} (b:σ→Option (σ ⊕ ρ)) (n:Nat):∀ m s r,iter b n s=some r→iter b (n+m) s=some r
 | 0,_,_,h=>h
 | m+1,s,r,h=>iter_succ b (n+m) s r (iter_add b n m s r h)
noncomputable def loopO {σ ρ:Type} (b:σ→Option (σ ⊕ ρ)) (s:σ):Option ρ :=
 open Classical in if h:∃ n r,iter b n s=some r then some h.choose_spec.choose else none
theorem loopO_some {σ ρ:Type} {b:σ→Option (σ ⊕ ρ)} {s:σ} {r:ρ}:loopO b s=some r ↔ ∃ n,iter b n s=some r:=by
 unfold loopO
 split
 ·rename_i h
  have h1:=h.choose_spec.choose_spec
  constructor
  ·intro hr;cases hr;exact ⟨_,h1⟩
  ·rintro ⟨n,hn⟩
   have a:=iter_add b n h.choose _ _ hn
   have b':=iter_add b h.choose n _ _ h1
   rw [Nat.add_comm] at b'
   rw [a] at b'
   exact b'.symm
 ·rename_i h
  constructor
  ·intro hr;cases hr
  ·rintro ⟨n,hn⟩;exact absurd ⟨n,r,hn⟩ h
theorem loopO_unfold {σ ρ:Type} (b:σ→Option (σ ⊕ ρ)) (s:σ):loopO b s=(b s).bind (Sum.elim (loopO b) some):=by
 apply Option.ext
 intro r
 rw [loopO_some]
 constructor
 ·rintro ⟨n,hn⟩
  cases n with
  | zero=>cases hn
  | succ n =>
   unfold iter at hn
   split at hn
   ·rename_i s' hb;rw [hb];exact loopO_some.2 ⟨n,hn⟩
   ·rename_i r' hb;rw [hb];exact hn
   ·cases hn
 ·intro h
  cases hb:b s with
  | none=>rw [hb] at h;cases h
  | some x =>
   rw [hb] at h
   cases x with
   | inl s' =>
    obtain ⟨n,hn⟩:=loopO_some.1 h
    exact ⟨n+1,by unfold iter;rw [hb];exact hn⟩
   | inr r'=>exact ⟨1,by unfold iter;rw [hb];exact h⟩
theorem loop_X {σ ρ:Type} {S:Sys} {keeps:List Nat} {body:TC} (encE:σ→Env) (encH:σ→Heap) (b:σ→Option (σ ⊕ ρ)) (encF:ρ→Out) (hF:∀ r,(encF r).1 ≠ .nrm)
  (step:∀ s,X S body (keepEnv keeps (encE s)) (encH s)=(b s).map (Sum.elim (fun s'=>(TX.nrm,encE s',encH s')) encF)) (s:σ):X S (.loop keeps body) (encE s) (encH s)=(loopO b s).map encF:=by
 apply Option.ext
 intro o
 constructor
 ·intro h
  obtain ⟨n,hn⟩:=X_some.1 h
  clear h
  induction n generalizing s with
  | zero=>cases hn
  | succ n ih =>
   simp only [exec,execF] at hn
   cases hb:execF (exec S n) S body (keepEnv keeps (encE s)) (encH s) with
   | none=>rw [hb] at hn;cases hn
   | some p =>
    have hx:X S body (keepEnv keeps (encE s)) (encH s)=some p:=by rw [X_unfold];exact execF_mono (exec_le_X S n) hb
    rw [step] at hx
    rw [loopO_unfold]
    cases hbs:b s with
    | none=>rw [hbs] at hx;cases hx
    | some y =>
     rw [hbs] at hx
     rw [hb] at hn
     cases y with
     | inl s' =>
      simp only [Option.map_some,Sum.elim_inl,Option.some.injEq] at hx
      subst hx
      exact ih s' hn
     | inr r =>
      simp only [Option.map_some,Sum.elim_inr,Option.some.injEq] at hx
      subst hx
      have hne:=hF r
      simp only [Option.bind_some,Sum.elim_inr,Option.map_some]
      rw [← hn]
      generalize encF r=p at hne
      obtain ⟨x,e,H⟩:=p
      cases x with
      | nrm=>exact absurd rfl hne
      | ext id=>rfl
      | ret=>rfl
 ·intro h
  simp only [Option.map_eq_some_iff] at h
  obtain ⟨r,hr,rfl⟩:=h
  obtain ⟨n,hn⟩:=loopO_some.1 hr
  clear hr
  induction n generalizing s with
  | zero=>cases hn
  | succ n ih =>
   rw [X_loop,step]
   unfold iter at hn
   split at hn
   ·rename_i s' hb
    rw [hb]
    simp only [Option.map_some,Sum.elim_inl,thenSeq_nrm]
    exact ih s' hn
   ·rename_i r' hb
    rw [hb]
    cases hn
    simp only [Option.map_some,Sum.elim_inr]
    have hne:=hF r
    generalize encF r=p at hne
    obtain ⟨x,e,H⟩:=p
    cases x with
    | nrm=>exact absurd rfl hne
    | ext id=>rfl
    | ret=>rfl
   ·cases hn
end Go.Proofs.TM
