import Derived.Orders
namespace Go.Proofs.TM
open Go
inductive TV where
 | undef
 | int (k:IntKind) (n:Int)
 | bool (b:Bool)
 | str (s:List UInt8)
 | nilp
 | ptr (id i j:Nat)
 | vp (cells:List TV)
 | vs (l:List (List TV))
 | hs (id off len:Nat) (full:Bool)
 | hc (id off len cap:Nat)
 | es
 | nils
 | ne
 | fn (f:Nat) (first captured:List TV)
 | nilf
 | iface (t:Nat) (v:TV)
 | nili
 | agg (l:List TV)
 | tup (l:List TV)
 | bself (id T:Nat)
 | nb
 | hb (id len T:Nat)
 | bd (id T:Nat)
 deriving Inhabited
inductive Blk where
 | dead
 | live (sz:Nat) (l:List (List TV))
 deriving Inhabited
abbrev Heap:=List Blk
abbrev Env:=List (Nat×TV)
def get:Env→Nat→TV
 | [],_=>.undef
 | (j,v)::e,i=>if i=j then v else get e i
def put (e:Env):Option Nat→TV→Env
 | some d,v=>(d,v)::e
 | none,_=>e
inductive Opd where
 | t (n:Nat)
 | c (v:TV)
 deriving Inhabited
def ev (e:Env):Opd→TV
 | .t n=>get e n
 | .c v=>v
inductive CK where
 | toInt (k:IntKind)
 | toBytes
 | toStr
 | same
 deriving Inhabited
inductive BK where
 | num | str | bool | nil
 | agg (ks:List Nat)
 deriving Inhabited,DecidableEq
inductive TOp where
 | mv (x:Opd)
 | pick (c a b:Opd)
 | alloc (zero:List TV)
 | box (x:Opd)
 | build (zero:List TV) (parts:List (Nat×Nat×Opd))
 | bslice (zero:List TV) (n:Nat) (parts:List (Nat×Opd))
 | load (n:Option Nat) (x:Opd)
 | store (n:Nat) (a x:Opd)
 | nilchk (x:Opd)
 | bin (k:BK) (op:BinOp) (x y:Opd)
 | un (op:UnOp) (x:Opd)
 | conv (k:CK) (x:Opd)
 | mkfn (f:Nat) (first captured:List Opd)
 | mkslice (bytes:Nat) (zero:List TV) (len cap:Opd)
 | sliceS (x:Opd) (lo hi:Option Opd)
 | slice (sz:Nat) (x:Opd) (lo hi mx:Option Opd)
 | faddr (off:Nat) (x:Opd)
 | iaddr (sz:Nat) (x i:Opd)
 | index (x i:Opd)
 | indexA (n:Nat) (x i:Opd)
 | ext (x:Opd) (i:Nat)
 | call (f:Nat) (args:List Opd)
 | callv (f:Opd) (args:List Opd)
 | append (el sz bytes:Nat) (s x:Opd)
 | allocB (T:Nat)
 | sdata (x:Opd)
 | ustr (T:Nat) (p n:Opd)
 | copy (sz:Nat) (d s:Opd)
 | cap (x:Opd)
 | appz (bytes:Nat) (zero:List TV) (s n:Opd)
 | ovl (f:Nat) (x y:Opd)
 | len (isStr:Bool) (x:Opd)
 | mm (isMax:Bool) (x y:Opd)
 | callM (f tag:Nat) (ids:List Nat) (args:List Opd)
 | callvM (f:Opd) (tag:Nat) (ids:List Nat) (args:List Opd)
 | frz (ids:List Nat) (x:Opd)
 | recut (sz:Nat) (x:Opd) (lo hi:Option Opd)
 deriving Inhabited
structure TO where
 dst:Option Nat
 guard:Option (Nat×Bool)
 op:TOp
 deriving Inhabited
structure KS where
 slots:List (Nat×Nat)
 blocks:List (Nat×Nat)
 pin:Nat
 deriving Inhabited
inductive KT where
 | o (x:KS)
 | s (t:Nat) (a b:KT)
 deriving Inhabited
inductive TC where
 | skip
 | bad
 | ops (l:List TO)
 | draw (hd:List (List Nat×TO)) (tl:List TO)
 | drawF (l:List (Option (List Nat)×TO)) (tl:List TO)
 | seq (a b:TC)
 | cond (c:Opd) (a b:TC)
 | block (id:Nat) (b:TC)
 | loop (keep:List Nat) (b:TC)
 | turn (keep:List Nat) (b rest:TC)
 | exit (id:Nat)
 | ret
 | keep (k:KT) (b:TC)
 | after (b:TC) (k:KT)
 | trim (l:List Nat) (b:TC)
 | fz (t:Nat) (ids:List Nat) (b:TC)
 deriving Inhabited
inductive TRes where
 | t (n:Nat)
 | cell (t:Nat) (n:Option Nat)
 deriving Inhabited
structure TFn where
 code:TC
 res:List TRes
 deriving Inhabited
abbrev Rule:=List TV→Option (TV×List Blk)
abbrev MRule:=List TV→List Blk→Option (TV×List Blk)
structure Sys where
 rule:Nat→Option Rule
 fn:Nat→Option TFn
 mrule:Nat→Nat→Option (Nat×MRule)
 ovl:Nat→Option Nat:=fun _=>none
def cellsOf:TV→Option (List TV)
 | .agg l=>some l
 | .undef=>none
 | .tup _=>none
 | v=>some [v]
def plain:TV→Bool
 | .undef | .agg _ | .tup _=>false
 | _=>true
def unnil:TV→TV
 | .nils=>.vs []
 | t=>t
def bitsI (op:BinOp) (k:IntKind) (x y:Int):Option Int :=
 let a:=BitVec.ofInt k.bits x
 let b:=BitVec.ofInt k.bits y
 match op with
 | .and=>some (k.wrap (a &&& b).toNat)
 | .or=>some (k.wrap (a ||| b).toNat)
 | .xor=>some (k.wrap (a ^^^ b).toNat)
 | .andNot=>some (k.wrap (a &&& ~~~b).toNat)
 | _=>none
def shiftI (op:BinOp) (k:IntKind) (x y:Int):Option Int :=
 if y < 0 then none
 else match op with
  | .shl=>some (k.wrap (x * 2 ^ (min y.toNat k.bits)))
  | .shr=>some (x.fdiv (2 ^ (min y.toNat k.bits)))
  | _=>none
def binI (op:BinOp) (k:IntKind) (x y:Int):Option TV :=
 match op with
 | .add=>some (.int k (k.wrap (x+y)))
 | .sub=>some (.int k (k.wrap (x - y)))
 | .mul=>some (.int k (k.wrap (x * y)))
 | .quo=>if y=0 then none else some (.int k (k.wrap (x.tdiv y)))
 | .rem=>if y=0 then none else some (.int k (x.tmod y))
 | .eql=>some (.bool (decide (x=y)))
 | .neq=>some (.bool (!decide (x=y)))
 | .lss=>some (.bool (decide (x < y)))
 | .leq=>some (.bool (decide (x≤y)))
 | .gtr=>some (.bool (decide (x > y)))
 | .geq=>some (.bool (decide (x ≥ y)))
 | .shl | .shr=>(shiftI op k x y).map (.int k)
 | _=>(bitsI op k x y).map (.int k)
def binS (op:BinOp) (x y:List UInt8):Option TV :=
 match op with
 | .add=>if x.length+y.length≤9223372036854775807 then some (.str (x++y)) else none
 | .eql=>some (.bool (decide (x=y)))
 | .neq=>some (.bool (!decide (x=y)))
 | .lss=>some (.bool (Op.bytesLess x y))
 | .leq=>some (.bool (Op.bytesLess x y || decide (x=y)))
 | .gtr=>some (.bool (!(Op.bytesLess x y || decide (x=y))))
 | .geq=>some (.bool (!Op.bytesLess x y))
 | _=>none
def cmpNil:TV→TV→Option Bool
 | .nilp,.nilp=>some true
 | .ptr ..,.nilp=>some false
 | .vp _,.nilp=>some false
 | .nilf,.nilf=>some true
 | .fn ..,.nilf=>some false
 | .nili,.nili=>some true
 | .iface ..,.nili=>some false
 | .nils,.nils=>some true
 | .ne,.nils=>some false
 | .vs (_::_),.nils=>some false
 | .hs _ _ (_+1) _,.nils=>some false
 | _,_=>none
def aggEq:List Nat→List TV→List TV→Option Bool
 | [],[],[]=>some true
 | 0::ks,.int k a::l,.int k' b::m=>if k=k' then (aggEq ks l m).map (decide (a=b) && ·) else none
 | 1::ks,.str a::l,.str b::m=>(aggEq ks l m).map (decide (a=b) && ·)
 | 2::ks,.bool a::l,.bool b::m=>(aggEq ks l m).map ((a == b) && ·)
 | _,_,_=>none
def binT (bk:BK) (op:BinOp) (x y:TV):Option TV :=
 match bk,x,y with
 | .agg ks,.agg l,.agg m=>match op with
  | .eql=>(aggEq ks l m).map .bool
  | .neq=>(aggEq ks l m).map fun b=>.bool (!b)
  | _=>none
 | .num,.int k a,.int k' b=>if op=.shl∨op=.shr then (shiftI op k a b).map (.int k) else if k=k' then binI op k a b else none
 | .str,.str a,.str b=>binS op a b
 | .bool,.bool a,.bool b=>match op with
  | .eql=>some (.bool (a == b))
  | .neq=>some (.bool (!(a == b)))
  | _=>none
 | .nil,x,y=>match op with
  | .eql=>(cmpNil x y).map .bool
  | .neq=>(cmpNil x y).map fun b=>.bool (!b)
  | _=>none
 | _,_,_=>none
def unT (op:UnOp) (x:TV):Option TV :=
 match op,x with
 | .neg,.int k n=>some (.int k (k.wrap (0 - n)))
 | .xor,.int k n=>(bitsI .xor k (if k.signed then -1 else k.max) n).map (.int k)
 | .not,.bool b=>some (.bool (!b))
 | _,_=>none
def splice (xs:List TV) (j:Nat) (cs:List TV):List TV:=xs.take j++cs++xs.drop (j+cs.length)
def cellsAt (H:Heap):TV→Option (List TV)
 | .ptr id i j=>match H[id]? with
  | some (.live _ l)=>(l[i]?).map (·.drop j)
  | _=>none
 | .vp cs=>some cs
 | _=>none
def packCells (n:Option Nat) (cs:List TV):Option TV :=
 match n with
 | none=>cs.head?
 | some n=>if n≤cs.length then some (.agg (cs.take n)) else none
def elems (H:Heap):TV→Option (List (List TV))
 | .vs l=>some l
 | .es | .nils | .ne=>some []
 | .hs id off len _=>match H[id]? with
  | some (.live _ l)=>if off+len≤l.length then some ((l.drop off).take len) else none
  | _=>none
 | .hc id off len _=>match H[id]? with
  | some (.live _ l)=>if off+len≤l.length then some ((l.drop off).take len) else none
  | _=>none
 | .str s=>some (s.map fun b=>[.int .u8 b.toNat])
 | _=>none
def lenT:TV→Option Nat
 | .vs l=>some l.length
 | .es | .nils | .ne=>some 0
 | .hs _ _ n _=>some n
 | .str s=>some s.length
 | _=>none
def isStr:TV→Bool
 | .str _=>true
 | _=>false
def strsOf:List TV→Option (List (List UInt8))
 | []=>some []
 | .str s::l=>(strsOf l).map (s::·)
 | _::_=>none
def toByte:List TV→Option UInt8
 | [.int .u8 n]=>some (UInt8.ofNat n.toNat)
 | _=>none
def allSome {α:Type}:List (Option α)→Option (List α)
 | []=>some []
 | none::_=>none
 | some a::r=>(allSome r).map (a::·)
def fillT (cells:List TV):List (Nat×Nat×TV)→Option (List TV)
 | []=>some cells
 | (off,size,v)::rest =>
  match cellsOf v with
  | some cs=>if cs.length=size∧off+size≤cells.length then fillT (splice cells off cs) rest else none
  | none=>none
def fillS (sz n:Nat) (l:List (List TV)):List (Nat×TV)→Option (List (List TV))
 | []=>some l
 | (i,v)::rest =>
  match cellsOf v with
  | some cs=>if cs.length=sz∧i < n then fillS sz n (l.set i cs) rest else none
  | none=>none
def reify (H:Heap):Nat→TV→TV
 | _,.int k n=>.int k n
 | _,.bool b=>.bool b
 | _,.str s=>.str s
 | _,.nilp=>.nilp
 | _,.vp cs=>.vp cs
 | _,.vs l=>.vs l
 | _,.es=>.vs []
 | _,.nils=>.vs []
 | _,.ne=>.vs []
 | _,.nilf=>.nilf
 | _,.nili=>.nili
 | _,.undef=>.undef
 | _,.hc ..=>.undef
 | _,.bself ..=>.undef
 | _,.nb=>.undef
 | _,.hb ..=>.undef
 | _,.bd ..=>.undef
 | 0,_=>.undef
 | d+1,.ptr id i j=>match H[id]? with
  | some (.live _ l)=>match l[i]? with
   | some xs=>.vp ((xs.drop j).map (reify H d))
   | none=>.undef
  | _=>.undef
 | d+1,.hs id off len _=>match H[id]? with
  | some (.live _ l)=>if off+len≤l.length then .vs (((l.drop off).take len).map fun xs=>xs.map (reify H d)) else .undef
  | _=>.undef
 | d+1,.fn f a b=>.fn f (a.map (reify H d)) (b.map (reify H d))
 | d+1,.iface t v=>.iface t (reify H d v)
 | d+1,.agg l=>.agg (l.map (reify H d))
 | d+1,.tup l=>.tup (l.map (reify H d))
def clean:Nat→TV→Bool
 | _,.int .. | _,.bool _ | _,.str _ | _,.nilp | _,.es | _,.nils | _,.nilf | _,.nili=>true
 | _,.hs ..=>true
 | _,.vs []=>true
 | d+1,.agg l=>l.all (clean d)
 | d+1,.tup l=>l.all (clean d)
 | _,_=>false
def cleanB:Blk→Bool
 | .dead=>true
 | .live _ l=>l.all fun xs=>xs.all (clean 0)
def noId:Nat→TV→Bool
 | _,.ptr .. | _,.hs .. | _,.hc .. | _,.bself .. | _,.hb .. | _,.bd ..=>false
 | d+1,.fn _ a b=>a.all (noId d) && b.all (noId d)
 | 0,.fn ..=>false
 | d+1,.iface _ v=>noId d v
 | 0,.iface ..=>false
 | d+1,.agg l=>l.all (noId d)
 | d+1,.tup l=>l.all (noId d)
 | 0,.agg _ | 0,.tup _=>false
 | _,_=>true
def shift (k:Nat):Nat→TV→TV
 | _,.ptr id i j=>.ptr (id+k) i j
 | _,.hs id off len full=>.hs (id+k) off len full
 | _,.hc id off len cap=>.hc (id+k) off len cap
 | _,.bself id T=>.bself (id+k) T
 | _,.hb id n T=>.hb (id+k) n T
 | _,.bd id T=>.bd (id+k) T
 | d+1,.fn f a b=>.fn f (a.map (shift k d)) (b.map (shift k d))
 | d+1,.iface t v=>.iface t (shift k d v)
 | d+1,.agg l=>.agg (l.map (shift k d))
 | d+1,.tup l=>.tup (l.map (shift k d))
 | 0,.fn .. | 0,.iface .. | 0,.agg _ | 0,.tup _=>.undef
 | _,v=>v
def shiftB (k:Nat):Blk→Blk
 | .dead=>.dead
 | .live sz l=>.live sz (l.map fun xs=>xs.map (shift k 1))
def ren (ρ:Nat→Option Nat):Nat→TV→TV
 | _,.ptr id i j=>match ρ id with | some id'=>.ptr id' i j | none=>.undef
 | _,.hs id off len full=>match ρ id with | some id'=>.hs id' off len full | none=>.undef
 | _,.hc id off len cap=>match ρ id with | some id'=>.hc id' off len cap | none=>.undef
 | _,.bself id T=>match ρ id with | some id'=>.bself id' T | none=>.undef
 | _,.hb id n T=>match ρ id with | some id'=>.hb id' n T | none=>.undef
 | _,.bd id T=>match ρ id with | some id'=>.bd id' T | none=>.undef
 | d+1,.fn f a b=>.fn f (a.map (ren ρ d)) (b.map (ren ρ d))
 | d+1,.iface t v=>.iface t (ren ρ d v)
 | d+1,.agg l=>.agg (l.map (ren ρ d))
 | d+1,.tup l=>.tup (l.map (ren ρ d))
 | 0,.fn .. | 0,.iface .. | 0,.agg _ | 0,.tup _=>.undef
 | _,v=>v
def renB (ρ:Nat→Option Nat):Blk→Blk
 | .dead=>.dead
 | .live sz l=>.live sz (l.map fun xs=>xs.map (ren ρ 1))
def posOf:List Nat→Nat→Option Nat
 | [],_=>none
 | x::l,y=>if x=y then some 0 else (posOf l y).map (·+1)
def backOf (base:Nat):List Nat→Nat→Nat
 | [],k=>base+k
 | x::_,0=>x
 | _::l,k+1=>backOf base l k
def noDup:List Nat→Bool
 | []=>true
 | x::l=>!l.contains x && noDup l
def treC:TV→TV
 | .nils=>.vs []
 | .es=>.vs []
 | .ne=>.vs []
 | v=>v
def coC:TV→TV
 | .nils=>.es
 | .hs id off len true=>if len=0 then .es else .hs id off len false
 | v=>v
def coV:Nat→TV→TV
 | 1,.agg l=>.agg (l.map coC)
 | 1,v=>coC v
 | 2,.agg l=>.agg (l.map treC)
 | 2,v=>treC v
 | _,v=>v
def coB:Nat→Blk→Blk
 | 1,.live sz l=>if l.length=0 then .dead else .live sz l
 | 2,.live sz l=>.live sz (l.map fun xs=>xs.map coC)
 | 3,.live sz l=>.live sz (l.map fun xs=>xs.map treC)
 | 4,_=>.dead
 | _,b=>b
def onlyB (ids:List Nat):Nat→Heap→Heap
 | _,[]=>[]
 | k,b::H=>(if ids.contains k then b else .dead)::onlyB ids (k+1) H
def killB (ids:List Nat):Nat→Heap→Heap
 | _,[]=>[]
 | k,b::H=>(if ids.contains k then .dead else b)::killB ids (k+1) H
def layB (H:Heap):List Nat→List Blk→Heap
 | x::l,b::N=>layB (H.set x b) l N
 | _,_=>H
def keepH (H:Heap) (ids:List Nat):Heap:=ids.map fun id=>renB (posOf ids) (H.getD id .dead)
def maxRow:Nat:=70368744177664
def bound (v:Option Int) (top:Nat) (dflt:Nat):Option Nat :=
 match v with
 | none=>some dflt
 | some i=>if 0≤i∧i≤(top:Int) then some i.toNat else none
def intOf? (e:Env):Option Opd→Option (Option Int)
 | none=>some none
 | some x=>match ev e x with
  | .int _ n=>some (some n)
  | _=>none
def cutT (x:TV) (n m h l:Nat) (given:Bool):Option TV :=
 match x with
 | .str s=>if given then none else some (.str ((s.take h).drop l))
 | .vs s=>if given && m == l then some .es else some (.vs ((s.take h).drop l))
 | .es=>some .es
 | .nils=>some .es
 | .ne=>some (.vs [])
 | .hs id off _ full=>if given && m == l then some .es else some (.hs id (off+l) (h - l) (full && (if given then m == h else h == n)))
 | _=>none
def sliceT (x:TV) (lo hi mx:Option Int):Option TV :=
 match lenT x with
 | none=>none
 | some n =>
  match bound mx n n with
  | none=>none
  | some m=>match bound hi m n with
   | none=>none
   | some h=>match bound lo h 0 with
    | none=>none
    | some l=>if h < l∨(mx.isSome=true∧hi.isSome=false) then none else cutT x n m h l mx.isSome
def sliceC (id off len cap:Nat) (lo hi mx:Option Int):Option TV :=
 match mx with
 | some _=>none
 | none=>match bound hi cap len with
  | none=>none
  | some h=>match bound lo h 0 with
   | none=>none
   | some l=>if h < l then none else some (.hc id (off+l) (h - l) (cap - l))
def sliceA (x:TV) (lo hi mx:Option Int):Option TV :=
 match x with
 | .hc id off len cap=>sliceC id off len cap lo hi mx
 | x=>sliceT x lo hi mx
def rng:TV→Option (Nat×Nat×Nat)
 | .hs id off len _=>some (id,off,len)
 | .hc id off len _=>some (id,off,len)
 | _=>none
def szBad (H:Heap) (sz:Nat):TV→Bool
 | .vs l=>!(l.all fun xs=>xs.length == sz)
 | .hs id _ _ _=>match H[id]? with
  | some (.live sz' _)=>sz' != sz
  | _=>true
 | .hc id _ _ _=>match H[id]? with
  | some (.live sz' _)=>sz' != sz
  | _=>true
 | .str _=>true
 | _=>false
def callRule (S:Sys) (H:Heap) (base f:Nat) (vs:List TV):Option (TV×List Blk) :=
 match S.rule f with
 | some F =>
  match F (vs.map (reify H 4)) with
  | some (r,N)=>if vs.all (noId 4) || (clean 2 r && N.all cleanB) then some (shift base 2 r,N.map (shiftB base)) else none
  | none=>none
 | none=>none
def callM (S:Sys) (H:Heap) (f tag:Nat) (ids:List Nat) (vs:List TV):Option (TV×Heap) :=
 match S.mrule f tag with
 | some (p,F) =>
  if noDup ids=true∧ids.all (fun x=>decide (x < H.length))=true then
   match F (vs.map (ren (posOf ids) 4)) (keepH H ids) with
   | some (r,N)=>some (ren (fun k=>some (backOf H.length (ids.take p) k)) 2 r,layB (killB (ids.drop p) 0 H) (ids.take p) (N.map (renB fun k=>some (backOf H.length (ids.take p) k)))++(N.drop (ids.take p).length).map (renB fun k=>some (backOf H.length (ids.take p) k)))
   | none=>none
  else none
 | none=>none
def opA (S:Sys) (e:Env) (H:Heap) (base:Nat):TOp→Option (TV×List Blk)
 | .mv x=>some (ev e x,[])
 | .pick c a b=>match ev e c with
  | .bool t=>some (if t then ev e a else ev e b,[])
  | _=>none
 | .alloc zero=>if zero.all plain then some (.ptr base 0 0,[.live zero.length [zero]]) else none
 | .box x=>match cellsOf (ev e x) with
  | some cs=>some (.ptr base 0 0,[.live cs.length [cs]])
  | none=>none
 | .build zero parts =>
  match fillT zero (parts.map fun p=>(p.1,p.2.1,ev e p.2.2)) with
  | some cs=>some (.agg cs,[])
  | none=>none
 | .bslice zero n parts =>
  if n=0 then (if parts.isEmpty then some (.es,[]) else none) else
  if zero.length=0 then none else
  match fillS zero.length n (List.replicate n zero) (parts.map fun p=>(p.1,ev e p.2)) with
  | some l=>some (.hs base 0 n true,[.live zero.length l])
  | none=>none
 | .load n x=>match cellsAt H (ev e x) with
  | some cs=>(packCells n cs).map fun v=>(v,[])
  | none=>none
 | .nilchk x=>match ev e x with
  | .ptr id i j=>some (.ptr id i j,[])
  | .vp cs=>some (.vp cs,[])
  | .fn f a b=>some (.fn f a b,[])
  | _=>none
 | .bin k op x y=>(binT k op (ev e x) (ev e y)).map fun v=>(v,[])
 | .un op x=>(unT op (ev e x)).map fun v=>(v,[])
 | .conv k x=>match k with
  | .toInt k=>match ev e x with
   | .int _ n=>some (.int k (k.wrap n),[])
   | _=>none
  | .same=>match ev e x with
   | .str s=>some (.str s,[])
   | _=>none
  | .toBytes=>match ev e x with
   | .str s=>if s.length≤maxRow then some (.hs base 0 s.length false,[.live 1 (s.map fun b=>[.int .u8 b.toNat])]) else none
   | _=>none
  | .toStr=>if isStr (ev e x) then none else match elems H (ev e x) with
   | some l=>(allSome (l.map toByte)).map fun s=>(.str s,[])
   | none=>none
 | .mkfn f a b=>some (.fn f (a.map (ev e)) (b.map (ev e)),[])
 | .mkslice bytes zero len cap=>match ev e len,ev e cap with
  | .int _ n,.int _ c=>if 0≤n∧n=c∧c.toNat * bytes≤maxRow∧c.toNat≤maxRow∧0 < zero.length∧zero.all plain then
    some (.hs base 0 n.toNat true,[.live zero.length (List.replicate n.toNat (zero.map unnil))]) else none
  | _,_=>none
 | .sliceS x lo hi=>match ev e x,intOf? e lo,intOf? e hi with
  | .str s,some l,some h=>(sliceT (.str s) l h none).map fun v=>(v,[])
  | _,_,_=>none
 | .slice sz x lo hi mx=>match intOf? e lo,intOf? e hi,intOf? e mx with
  | some l,some h,some m=>if szBad H sz (ev e x) then none else (sliceA (ev e x) l h m).map fun v=>(v,[])
  | _,_,_=>none
 | .faddr off x=>match ev e x with
  | .ptr id i j=>some (.ptr id i (j+off),[])
  | .vp cs=>some (.vp (cs.drop off),[])
  | _=>none
 | .iaddr sz x i=>match ev e x,ev e i with
  | .vs l,.int _ n=>if 0≤n then match l[n.toNat]? with
    | some xs=>if xs.length=sz then some (.vp xs,[]) else none
    | none=>none
   else none
  | .hs id off len _,.int _ n=>if 0≤n∧n < (len:Int) then match H[id]? with
    | some (.live sz' _)=>if sz'=sz then some (.ptr id (off+n.toNat) 0,[]) else none
    | _=>none
   else none
  | _,_=>none
 | .index x i=>match ev e x,ev e i with
  | .str s,.int _ n=>if 0≤n then (s[n.toNat]?).map fun b=>(.int .u8 b.toNat,[]) else none
  | _,_=>none
 | .indexA n x i=>match ev e x,ev e i with
  | .agg l,.int _ k=>(strsOf l).bind fun ls=>if 0≤k∧k < (n:Int) then (ls[k.toNat]?).map fun s=>(.str s,[]) else none
  | _,_=>none
 | .ext x i=>match ev e x with
  | .tup l=>(l[i]?).map fun v=>(v,[])
  | _=>none
 | .call f as=>callRule S H base f (as.map (ev e))
 | .callv f as=>match ev e f with
  | .fn g a b=>callRule S H base g (a++as.map (ev e)++b)
  | _=>none
 | .append _ sz bytes s x=>match elems H (ev e x) with
  | some b =>
   if b.all (fun xs=>xs.length == sz) then
    match ev e s with
    | .nils=>if b.length=0 then some (.nils,[.dead]) else if b.length * (bytes+1)≤maxRow then some (.hs base 0 b.length false,[.live sz b]) else none
    | .es=>if b.length=0 then some (.es,[.dead]) else if b.length * (bytes+1)≤maxRow then some (.hs base 0 b.length false,[.live sz b]) else none
    | .hs id off len true=>if b.length=0 then some (.hs id off len true,[]) else match H[id]? with
     | some (.live sz' l)=>if sz'=sz∧off+len≤l.length∧(len+b.length) * (bytes+1)≤maxRow then some (.hs base 0 (len+b.length) false,[.live sz ((l.drop off).take len++b)]) else none
     | _=>none
    | .vs l=>if b.length=0 then some (.vs l,[]) else none
    | _=>none
   else none
  | none=>none
 | .len isStr x=>match isStr,ev e x with
  | true,.str s=>some (.int .i64 (s.length:Int),[])
  | false,.vs l=>some (.int .i64 (l.length:Int),[])
  | false,.hs _ _ n _=>some (.int .i64 (n:Int),[])
  | false,.hc _ _ n _=>some (.int .i64 (n:Int),[])
  | false,.es | false,.nils | false,.ne | false,.nb=>some (.int .i64 0,[])
  | false,.hb _ n _=>some (.int .i64 (n:Int),[])
  | _,_=>none
 | .allocB T=>some (.ptr base 0 0,[.live 2 [[.bself base T,.nb]],.dead])
 | .sdata x=>match ev e x with
  | .hb id _ T=>some (.bd id T,[])
  | .nb=>some (.nilp,[])
  | _=>none
 | .mm isMax x y=>match ev e x,ev e y with
  | .int k a,.int k' b=>if k=k' then some (.int k (if isMax then max a b else min a b),[]) else none
  | _,_=>none
 | .cap x=>match ev e x with
  | .hc _ _ _ c=>some (.int .i64 (c:Int),[])
  | _=>none
 | .appz bytes zero s n=>match ev e s,ev e n with
  | .hc id off len cap,.int _ k=>match H[id]? with
   | some (.live sz l)=>if 0 < k∧cap < len+k.toNat∧sz=zero.length∧off+len≤l.length∧(len+k.toNat) * (bytes+1)≤maxRow then
     some (.hs base 0 (len+k.toNat) false,[.live zero.length ((l.drop off).take len++List.replicate k.toNat zero)]) else none
   | _=>none
  | _,_=>none
 | .ovl f x y=>match S.ovl f,ev e x,rng (ev e y) with
  | some sz,.hs id off len true,some (id',off',len')=>match H[id]?,H[id']? with
   | some (.live sz1 l1),some (.live sz2 l2)=>if id ≠ id'∧sz1=sz∧sz2=sz∧off+len≤l1.length∧off'+len'≤l2.length then some (.bool false,[]) else none
   | _,_=>none
  | _,_,_=>none
 | _=>none
inductive TX where
 | nrm
 | ext (id:Nat)
 | ret
 deriving Inhabited,DecidableEq
abbrev Out:=TX×Env×Heap
def argEnv:Nat→List TV→Env
 | _,[]=>[]
 | k,v::r=>(k,v)::argEnv (k+1) r
def resOf (e:Env) (H:Heap):TRes→Option TV
 | .t n=>some (get e n)
 | .cell t n=>match cellsAt H (get e t) with
  | some cs=>packCells n cs
  | none=>none
def results (e:Env) (H:Heap) (rs:List TRes):Option TV :=
 match allSome (rs.map (resOf e H)) with
 | some [v]=>some v
 | some vs=>some (.tup vs)
 | none=>none
def callFn (rec:TC→Env→Heap→Option Out) (tf:TFn) (vs:List TV) (H:Heap):Option (TV×Heap) :=
 match rec tf.code (argEnv 0 vs) H with
 | some (.ext _,_,_)=>none
 | some (_,e,H')=>(results e H' tf.res).map fun v=>(v,H')
 | none=>none
def storeT (H:Heap) (n:Nat) (a x:TV):Option Heap :=
 match a,cellsOf x with
 | .ptr id i j,some cs =>
  if cs.length=n∧cs.all plain then match H[id]? with
   | some (.live sz l)=>match l[i]? with
    | some xs=>if j+n≤xs.length then some (H.set id (.live sz (l.set i (splice xs j cs)))) else none
    | none=>none
   | _=>none
  else none
 | _,_=>none
def appendM (H:Heap) (sz bytes:Nat) (s x:TV):Option (TV×Heap) :=
 match s,elems H x with
 | .hs id off len false,some b=>match H[id]? with
  | some (.live sz' l) =>
   if sz'=sz∧off+len=l.length∧(len+b.length) * (bytes+1)≤maxRow∧b.all (fun xs=>xs.length == sz && xs.all plain) then
    some (.hs H.length 0 (len+b.length) false,H.set id .dead++[.live sz (l.drop off++b)])
   else none
  | _=>none
 | _,_=>none
def appendB (H:Heap) (el sz bytes:Nat) (s x:TV):Option (TV×Heap) :=
 match elems H x with
 | some b =>
  if sz=1∧b.all (fun xs=>xs.length == 1 && xs.all plain)=true then
   match s with
   | .nb=>if b.length=0 then some (.nb,H++[.dead]) else if b.length * (bytes+1)≤maxRow then some (.hb H.length b.length el,H++[.live 1 b]) else none
   | .hb id n T=>match H[id]? with
    | some (.live 1 l)=>if T=el∧n=l.length∧(n+b.length) * (bytes+1)≤maxRow then some (.hb H.length (n+b.length) el,H.set id .dead++[.live 1 (l++b)]) else none
    | _=>none
   | _=>none
  else none
 | none=>none
def ustrM (H:Heap) (T:Nat) (p n:TV):Option (TV×Heap) :=
 match p,n with
 | .nilp,.int .i64 k=>if k=0 then some (.str [],H) else none
 | .bd id T',.int .i64 k=>match H[id]? with
  | some (.live 1 l)=>if T'=T∧k=(l.length:Int)∧0 < l.length∧l.length≤maxRow then (allSome (l.map toByte)).map fun s=>(.str s,H.set id .dead) else none
  | _=>none
 | _,_=>none
def copyM (H:Heap) (sz:Nat) (d s:TV):Option (TV×Heap) :=
 match rng d,elems H s with
 | some (id,off,len),some b=>match H[id]? with
  | some (.live sz' l) =>
   if isStr s=false∧sz'=sz∧off+len≤l.length∧b.all (fun xs=>xs.length == sz)∧(b.take (min b.length len)).all (fun xs=>xs.all plain) then
    some (.int .i64 (min b.length len:Nat),H.set id (.live sz (l.take off++b.take (min b.length len)++l.drop (off+min b.length len))))
   else none
  | _=>none
 | _,_=>none
def anch (H:Heap):TV→Option (TV×Heap)
 | .hs id off len _=>match H[id]? with
  | some (.live sz l)=>if off+len≤l.length∧0 < len then some (.hs H.length 0 len false,H.set id .dead++[.live sz ((l.drop off).take len)]) else none
  | _=>none
 | _=>none
def runOp (rec:TC→Env→Heap→Option Out) (S:Sys) (e:Env) (H:Heap) (o:TOp):Option (TV×Heap) :=
 match o with
 | .store n a x=>(storeT H n (ev e a) (ev e x)).map fun H'=>(.tup [],H')
 | .append el sz bytes s x=>match ev e s with
  | .hs _ _ _ false=>appendM H sz bytes (ev e s) (ev e x)
  | .nb=>appendB H el sz bytes .nb (ev e x)
  | .hb id n T=>appendB H el sz bytes (.hb id n T) (ev e x)
  | _=>(opA S e H H.length (.append el sz bytes s x)).map fun p=>(p.1,H++p.2)
 | .ustr T p n=>ustrM H T (ev e p) (ev e n)
 | .copy sz d s=>copyM H sz (ev e d) (ev e s)
 | .callM f tag ids as=>callM S H f tag ids (as.map (ev e))
 | .frz ids x=>some (reify (onlyB ids 0 H) 4 (ev e x),killB ids 0 H)
 | .recut sz x lo hi=>match opA S e H H.length (.slice sz x lo hi none) with
  | some (r,[])=>anch H r
  | _=>none
 | .callvM f tag ids as=>match ev e f with
  | .fn g a b=>callM S H g tag ids (a++as.map (ev e)++b)
  | _=>none
 | .call f as=>match S.fn f with
  | some tf=>callFn rec tf (as.map (ev e)) H
  | none=>(opA S e H H.length (.call f as)).map fun p=>(p.1,H++p.2)
 | .callv f as=>match ev e f with
  | .fn g a b=>match S.fn g with
   | some tf=>callFn rec tf (a++as.map (ev e)++b) H
   | none=>(callRule S H H.length g (a++as.map (ev e)++b)).map fun p=>(p.1,H++p.2)
  | _=>none
 | o=>(opA S e H H.length o).map fun p=>(p.1,H++p.2)
def thenOps {α β:Type} (r:Option (TV×α)) (k:TV→α→Option β):Option β :=
 match r with
 | some (v,H)=>k v H
 | none=>none
def guardOps {β:Type} (e:Env) (t:Nat) (w:Bool) (go skip:Env→Option β):Option β :=
 match get e t with
 | .bool b=>if b=true then (if w=true then go ((t,.bool true)::e) else skip ((t,.bool true)::e)) else (if w=true then skip ((t,.bool false)::e) else go ((t,.bool false)::e))
 | .tup []=>skip e
 | _=>none
def runOps (rec:TC→Env→Heap→Option Out) (S:Sys):List TO→Env→Heap→Option (Env×Heap)
 | [],e,H=>some (e,H)
 | ⟨d,none,o⟩::r,e,H=>thenOps (runOp rec S e H o) fun v H'=>runOps rec S r (put e d v) H'
 | ⟨d,some (t,w),o⟩::r,e,H=>guardOps e t w (fun e=>thenOps (runOp rec S e H o) fun v H'=>runOps rec S r (put e d v) H') (fun e=>runOps rec S r (put e d (.tup [])) H)
def opdTmps:Opd→List Nat
 | .t n=>[n]
 | .c _=>[]
def topTmps:TOp→List Nat
 | .cap x | .sdata x | .mv x | .box x | .load _ x | .nilchk x | .un _ x | .conv _ x | .faddr _ x | .ext x _ | .len _ x=>opdTmps x
 | .pick c a b=>opdTmps c++opdTmps a++opdTmps b
 | .alloc _ | .allocB _=>[]
 | .build _ ps=>ps.flatMap fun p=>opdTmps p.2.2
 | .bslice _ _ ps=>ps.flatMap fun p=>opdTmps p.2
 | .store _ a x | .bin _ _ a x | .mkslice _ _ a x | .iaddr _ a x | .index a x | .indexA _ a x | .append _ _ _ a x | .ustr _ a x | .copy _ a x | .mm _ a x | .appz _ _ a x | .ovl _ a x=>opdTmps a++opdTmps x
 | .mkfn _ a b=>a.flatMap opdTmps++b.flatMap opdTmps
 | .sliceS x lo hi=>opdTmps x++lo.toList.flatMap opdTmps++hi.toList.flatMap opdTmps
 | .slice _ x lo hi mx=>opdTmps x++lo.toList.flatMap opdTmps++hi.toList.flatMap opdTmps++mx.toList.flatMap opdTmps
 | .call _ as=>as.flatMap opdTmps
 | .callv f as=>opdTmps f++as.flatMap opdTmps
 | .callM _ _ _ as=>as.flatMap opdTmps
 | .callvM f _ _ as=>opdTmps f++as.flatMap opdTmps
 | .frz _ x=>opdTmps x
 | .recut _ x lo hi=>opdTmps x++lo.toList.flatMap opdTmps++hi.toList.flatMap opdTmps
def keepS1 (k:KS) (e:Env) (H:Heap):Option (Env×Heap) :=
 if noDup (k.blocks.map (·.1))=true∧(k.blocks.map (·.1)).take k.pin=List.range k.pin then
  some (k.slots.map fun p=>(p.1,coV p.2 (ren (posOf (k.blocks.map (·.1))) 4 (get e p.1))),k.blocks.map fun p=>coB p.2 (renB (posOf (k.blocks.map (·.1))) (H.getD p.1 .dead))) else none
def keepS:KT→Env→Heap→Option (Env×Heap)
 | .o x,e,H=>keepS1 x e H
 | .s t a b,e,H=>match get e t with
  | .bool true=>keepS a e H
  | .bool false=>keepS b e H
  | _=>none
def KT.pin:KT→Nat
 | .o x=>x.pin
 | .s _ a b=>min a.pin b.pin
def keepEnv (keep:List Nat) (e:Env):Env:=keep.map fun i=>(i,get e i)
def maskS (sel:Nat→Bool):Nat→List (List Blk)→Heap
 | _,[]=>[]
 | k,N::Ns=>(if sel k=true then N else List.replicate N.length .dead)++maskS sel (k+1) Ns
def runDraw (S:Sys) (H:Heap):List (List Nat×TO)→Env→List (List Blk)→Option (Env×List (List Blk))
 | [],e,acc=>some (e,acc)
 | (anc,⟨d,none,o⟩)::r,e,acc =>
  thenOps (opA S (keepEnv (topTmps o) e) (H++maskS (fun k=>anc.contains k) 0 acc) (H++maskS (fun k=>anc.contains k) 0 acc).length o) fun v N=>runDraw S H r (put e d v) (acc++[N])
 | (anc,⟨d,some (t,w),o⟩)::r,e,acc=>guardOps e t w
  (fun e=>thenOps (opA S (keepEnv (topTmps o) e) (H++maskS (fun k=>anc.contains k) 0 acc) (H++maskS (fun k=>anc.contains k) 0 acc).length o) fun v N=>runDraw S H r (put e d v) (acc++[N]))
  (fun e=>runDraw S H r (put e d (.tup [])) (acc++[[]]))
noncomputable def lateGo {β:Type} (p:Prop) (k:Option β):Option β:=open Classical in if p then k else none
def lk:List (Nat×TOp)→Nat→Option TOp
 | [],_=>none
 | (y,o)::l,x=>if x=y then some o else lk l x
def lateOne (S:Sys) (e:Env) (H:Heap) (x:Nat):Option TOp→Prop
 | some o=>opA S (keepEnv (topTmps o) e) H H.length o=some (get e x,[])
 | none=>False
def lateF (S:Sys) (fl:List (Nat×TOp)) (e:Env) (H:Heap):List Nat→Prop
 | []=>True
 | x::l=>lateOne S e H x (lk fl x)∧lateF S fl e H l
def thenNil {β:Type} (N:List Blk) (k:Option β):Option β :=
 match N with
 | []=>k
 | _=>none
theorem thenOps_inv {α β:Type} {r:Option (TV×α)} {k:TV→α→Option β} {x:β} (h:thenOps r k=some x):∃ v a,r=some (v,a)∧k v a=some x:=by
 cases r with
 | none=>cases h
 | some p=>exact ⟨p.1,p.2,rfl,h⟩
theorem guardOps_inv {β:Type} {e:Env} {t:Nat} {w:Bool} {go skip:Env→Option β} {x:β} (h:guardOps e t w go skip=some x) :
  ∃ e',(∀ i,get e' i=get e i)∧((get e t=.bool w∧go e'=some x)∨(get e t ≠ .bool w∧((∃ b,get e t=.bool b)∨get e t=.tup [])∧skip e'=some x)):=by
 unfold guardOps at h
 split at h
 ·rename_i b hb
  have hget:∀ c,b=c→∀ i,get ((t,.bool c)::e) i=get e i:=fun c hc i=>by
   simp only [get]
   by_cases hi:i=t
   ·rw [if_pos hi,hi,hb,hc]
   ·rw [if_neg hi]
  split at h
  ·rename_i hbt
   split at h
   ·rename_i hw;exact ⟨_,hget true hbt,.inl ⟨by rw [hb,hbt,hw],h⟩⟩
   ·rename_i hw;exact ⟨_,hget true hbt,.inr ⟨by rw [hb,hbt];intro hh;cases hh;exact hw rfl,.inl ⟨_,hb⟩,h⟩⟩
  ·rename_i hbt
   have hbf:b=false:=by simpa using hbt
   split at h
   ·rename_i hw;exact ⟨_,hget false hbf,.inr ⟨(by rw [hb,hbf];intro hh;cases hh;cases hw),.inl ⟨_,hb⟩,h⟩⟩
   ·rename_i hw
    have hwf:w=false:=by simpa using hw
    exact ⟨_,hget false hbf,.inl ⟨by rw [hb,hbf,hwf],h⟩⟩
 ·rename_i ht;exact ⟨e,fun _=>rfl,.inr ⟨(by rw [ht];intro hh;cases hh),.inr ht,h⟩⟩
 ·cases h
theorem guardOps_mono {e:Env} {t:Nat} {w:Bool} {go skip go' skip':Env→Option (Env×Heap)} (h1:∀ e x,go e=some x→go' e=some x) (h2:∀ e x,skip e=some x→skip' e=some x) {x:Env×Heap} (h:guardOps e t w go skip=some x) :
  guardOps e t w go' skip'=some x:=by
 unfold guardOps at h ⊢
 split at h
 ·rename_i b hb
  split at h
  ·rename_i hbt
   rw [if_pos hbt]
   split at h
   ·rename_i hw;rw [if_pos hw];exact h1 _ _ h
   ·rename_i hw;rw [if_neg hw];exact h2 _ _ h
  ·rename_i hbt
   rw [if_neg hbt]
   split at h
   ·rename_i hw;rw [if_pos hw];exact h2 _ _ h
   ·rename_i hw;rw [if_neg hw];exact h1 _ _ h
 ·exact h2 _ _ h
 ·cases h
noncomputable def runF (rec:TC→Env→Heap→Option Out) (S:Sys):List (Option (List Nat)×TO)→List (Nat×TOp)→Env→Heap→Option (Env×Heap)
 | [],_,e,H=>some (e,H)
 | (none,⟨some x,none,o⟩)::r,fl,e,H=>thenOps (opA S (keepEnv (topTmps o) e) H H.length o) fun v N=>thenNil N (runF rec S r ((x,o)::fl) (put e (some x) v) H)
 | (none,⟨none,_,_⟩)::_,_,_,_=>none
 | (none,⟨some _,some _,_⟩)::_,_,_,_=>none
 | (some lt,⟨d,none,o⟩)::r,fl,e,H=>thenOps (runOp rec S (keepEnv (topTmps o) e) H o) fun v H'=>lateGo (lateF S fl (put e d v) H' lt) (runF rec S r fl (put e d v) H')
 | (some lt,⟨d,some (t,w),o⟩)::r,fl,e,H=>guardOps e t w
  (fun e=>thenOps (runOp rec S (keepEnv (topTmps o) e) H o) fun v H'=>lateGo (lateF S fl (put e d v) H' lt) (runF rec S r fl (put e d v) H'))
  (fun e=>runF rec S r fl (put e d (.tup [])) H)
theorem lateGo_inv {β:Type} {p:Prop} {k:Option β} {x:β} (h:lateGo p k=some x):p∧k=some x:=by
 unfold lateGo at h
 split at h
 ·rename_i hp;exact ⟨hp,h⟩
 ·cases h
theorem lateGo_mk {β:Type} {p:Prop} {k:Option β} {x:β} (hp:p) (h:k=some x):lateGo p k=some x:=by
 unfold lateGo
 rw [if_pos hp];exact h
theorem thenNil_inv {β:Type} {N:List Blk} {k:Option β} {x:β} (h:thenNil N k=some x):N=[]∧k=some x:=by
 cases N with
 | nil=>exact ⟨rfl,h⟩
 | cons _ _=>cases h
noncomputable def execF (rec:TC→Env→Heap→Option Out) (S:Sys):TC→Env→Heap→Option Out
 | .skip,e,H=>some (.nrm,e,H)
 | .bad,_,_=>none
 | .ops l,e,H=>match runOps rec S l e H with
  | some (e',H')=>some (.nrm,e',H')
  | none=>none
 | .draw hd tl,e,H=>match runDraw S H hd e [] with
  | some (e',Ns)=>match runOps rec S tl e' (H++Ns.flatten) with
   | some (e'',H'')=>some (.nrm,e'',H'')
   | none=>none
  | none=>none
 | .drawF l tl,e,H=>match runF rec S l [] e H with
  | some (e',H')=>match runOps rec S tl e' H' with
   | some (e'',H'')=>some (.nrm,e'',H'')
   | none=>none
  | none=>none
 | .seq a b,e,H=>match execF rec S a e H with
  | some (.nrm,e',H')=>execF rec S b e' H'
  | r=>r
 | .cond c a b,e,H=>match ev e c with
  | .bool t=>if t then execF rec S a e H else execF rec S b e H
  | _=>none
 | .block id b,e,H=>match execF rec S b e H with
  | some (.ext id',e',H')=>if id'=id then some (.nrm,e',H') else some (.ext id',e',H')
  | r=>r
 | .loop keep b,e,H=>match execF rec S b (keepEnv keep e) H with
  | some (.nrm,e',H')=>rec (.loop keep b) e' H'
  | r=>r
 | .turn keep a b,e,H=>match execF rec S a (keepEnv keep e) H with
  | some (.nrm,e',H')=>execF rec S b e' H'
  | r=>r
 | .exit id,e,H=>some (.ext id,e,H)
 | .ret,e,H=>some (.ret,e,H)
 | .keep k b,e,H=>match keepS k e H with
  | some (e',H')=>execF rec S b e' H'
  | none=>none
 | .trim l b,e,H=>execF rec S b (keepEnv l e) H
 | .fz t ids b,e,H=>execF rec S b (put e (some t) (reify (onlyB ids 0 H) 4 (get e t))) (killB ids 0 H)
 | .after b k,e,H=>match execF rec S b e H with
  | some (.nrm,e',H')=>match keepS k e' H' with
   | some (e'',H'')=>some (.nrm,e'',H'')
   | none=>none
  | r=>r
noncomputable def exec (S:Sys):Nat→TC→Env→Heap→Option Out
 | 0,_,_,_=>none
 | n+1,c,e,H=>execF (exec S n) S c e H
def Le (f g:TC→Env→Heap→Option Out):Prop:=∀ c e H r,f c e H=some r→g c e H=some r
theorem callFn_mono {f g:TC→Env→Heap→Option Out} (h:Le f g) {tf:TFn} {vs:List TV} {H:Heap} {r:TV×Heap} (hr:callFn f tf vs H=some r):callFn g tf vs H=some r:=by
 unfold callFn at hr ⊢
 cases hf:f tf.code (argEnv 0 vs) H with
 | none=>rw [hf] at hr;cases hr
 | some o=>rw [h _ _ _ _ hf];rw [hf] at hr;exact hr
theorem runOp_mono {f g:TC→Env→Heap→Option Out} (h:Le f g) {S:Sys} {e:Env} {H:Heap} {o:TOp} {r:TV×Heap} (hr:runOp f S e H o=some r):runOp g S e H o=some r:=by
 unfold runOp at hr ⊢
 cases o <;> try exact hr
 case call fn as =>
  dsimp only at hr ⊢
  split at hr
  ·exact callFn_mono h hr
  ·exact hr
 case callv fn as =>
  dsimp only at hr ⊢
  split at hr
  ·split at hr
   ·exact callFn_mono h hr
   ·exact hr
  ·cases hr
theorem runOps_mono {f g:TC→Env→Heap→Option Out} (h:Le f g) {S:Sys}:∀ {l:List TO} {e:Env} {H:Heap} {r:Env×Heap},runOps f S l e H=some r→runOps g S l e H=some r
 | [],_,_,_,hr=>hr
 | ⟨d,none,o⟩::l,e,H,r,hr=>by
  unfold runOps at hr ⊢
  obtain ⟨v,H',h1,h2⟩:=thenOps_inv hr
  rw [runOp_mono h h1]
  exact runOps_mono h h2
 | ⟨d,some (t,w),o⟩::l,e,H,r,hr=>by
  unfold runOps at hr ⊢
  refine guardOps_mono (fun e x hx=>?_) (fun e x hx=>runOps_mono h hx) hr
  obtain ⟨v,H',h1,h2⟩:=thenOps_inv hx
  rw [runOp_mono h h1]
  exact runOps_mono h h2
theorem runF_mono {f g:TC→Env→Heap→Option Out} (h:Le f g) {S:Sys}:∀ {l:List (Option (List Nat)×TO)} {fl:List (Nat×TOp)} {e:Env} {H:Heap} {r:Env×Heap},runF f S l fl e H=some r→runF g S l fl e H=some r
 | [],_,_,_,_,hr=>hr
 | (none,⟨some x,none,o⟩)::l,fl,e,H,r,hr=>by
  unfold runF at hr ⊢
  obtain ⟨v,N,h1,h2⟩:=thenOps_inv hr
  obtain ⟨rfl,h3⟩:=thenNil_inv h2
  rw [h1]
  exact runF_mono h h3
 | (none,⟨none,_,_⟩)::_,_,_,_,_,hr=>hr
 | (none,⟨some _,some _,_⟩)::_,_,_,_,_,hr=>hr
 | (some lt,⟨d,none,o⟩)::l,fl,e,H,r,hr=>by
  unfold runF at hr ⊢
  obtain ⟨v,H',h1,h2⟩:=thenOps_inv hr
  obtain ⟨h3,h4⟩:=lateGo_inv h2
  rw [runOp_mono h h1]
  exact lateGo_mk h3 (runF_mono h h4)
 | (some lt,⟨d,some (t,w),o⟩)::l,fl,e,H,r,hr=>by
  unfold runF at hr ⊢
  refine guardOps_mono (fun e x hx=>?_) (fun e x hx=>runF_mono h hx) hr
  obtain ⟨v,H',h1,h2⟩:=thenOps_inv hx
  obtain ⟨h3,h4⟩:=lateGo_inv h2
  rw [runOp_mono h h1]
  exact lateGo_mk h3 (runF_mono h h4)
theorem execF_mono {f g:TC→Env→Heap→Option Out} (h:Le f g) {S:Sys}:∀ {c:TC} {e:Env} {H:Heap} {r:Out},execF f S c e H=some r→execF g S c e H=some r
 | .skip,_,_,_,hr=>hr
 | .bad,_,_,_,hr=>hr
 | .exit _,_,_,_,hr=>hr
 | .ret,_,_,_,hr=>hr
 | .keep k b,e,H,r,hr=>by
  unfold execF at hr ⊢
  cases hk:keepS k e H with
  | none=>rw [hk] at hr;cases hr
  | some p=>rw [hk] at hr;exact execF_mono h hr
 | .trim l b,e,H,r,hr=>by
  unfold execF at hr ⊢
  exact execF_mono h hr
 | .fz t ids b,e,H,r,hr=>by
  unfold execF at hr ⊢
  exact execF_mono h hr
 | .after b k,e,H,r,hr=>by
  unfold execF at hr ⊢
  cases ha:execF f S b e H with
  | none=>rw [ha] at hr;cases hr
  | some p=>rw [execF_mono h ha];rw [ha] at hr;exact hr
 | .ops l,e,H,r,hr=>by
  unfold execF at hr ⊢
  cases ho:runOps f S l e H with
  | none=>rw [ho] at hr;cases hr
  | some p=>rw [ho] at hr;rw [runOps_mono h ho];exact hr
 | .draw hd tl,e,H,r,hr=>by
  unfold execF at hr ⊢
  cases hd':runDraw S H hd e [] with
  | none=>rw [hd'] at hr;cases hr
  | some p =>
   rw [hd'] at hr
   dsimp only at hr ⊢
   cases ho:runOps f S tl p.1 (H++p.2.flatten) with
   | none=>rw [ho] at hr;cases hr
   | some q=>rw [ho] at hr;rw [runOps_mono h ho];exact hr
 | .drawF l tl,e,H,r,hr=>by
  unfold execF at hr ⊢
  cases hd':runF f S l [] e H with
  | none=>rw [hd'] at hr;cases hr
  | some p =>
   rw [hd'] at hr
   rw [runF_mono h hd']
   dsimp only at hr ⊢
   cases ho:runOps f S tl p.1 p.2 with
   | none=>rw [ho] at hr;cases hr
   | some q=>rw [ho] at hr;rw [runOps_mono h ho];exact hr
 | .seq a b,e,H,r,hr=>by
  unfold execF at hr ⊢
  cases ha:execF f S a e H with
  | none=>rw [ha] at hr;cases hr
  | some p =>
   rw [execF_mono h ha]
   rw [ha] at hr
   obtain ⟨x,e',H'⟩:=p
   cases x
   ·exact execF_mono h hr
   ·exact hr
   ·exact hr
 | .turn keep a b,e,H,r,hr=>by
  unfold execF at hr ⊢
  cases ha:execF f S a (keepEnv keep e) H with
  | none=>rw [ha] at hr;cases hr
  | some p =>
   rw [execF_mono h ha]
   rw [ha] at hr
   obtain ⟨x,e',H'⟩:=p
   cases x
   ·exact execF_mono h hr
   ·exact hr
   ·exact hr
 | .cond c a b,e,H,r,hr=>by
  unfold execF at hr ⊢
  split at hr
  ·split at hr
   ·rename_i t hc ht;simp only [ht,if_true];exact execF_mono h hr
   ·rename_i t hc ht;simp only [ht];exact execF_mono h hr
  ·cases hr
 | .block id b,e,H,r,hr=>by
  unfold execF at hr ⊢
  cases ha:execF f S b e H with
  | none=>rw [ha] at hr;cases hr
  | some p=>rw [execF_mono h ha];rw [ha] at hr;exact hr
 | .loop keep b,e,H,r,hr=>by
  unfold execF at hr ⊢
  cases ha:execF f S b (keepEnv keep e) H with
  | none=>rw [ha] at hr;cases hr
  | some p =>
   rw [execF_mono h ha]
   rw [ha] at hr
   obtain ⟨x,e',H'⟩:=p
   cases x
   ·exact h _ _ _ _ hr
   ·exact hr
   ·exact hr
theorem exec_le (S:Sys):∀ n,Le (exec S n) (exec S (n+1))
 | 0,_,_,_,_,h=>by cases h
 | n+1,_,_,_,_,h=>execF_mono (exec_le S n) h
theorem exec_le_add (S:Sys) (n:Nat):∀ m,Le (exec S n) (exec S (n+m))
 | 0,_,_,_,_,h=>h
 | m+1,c,e,H,r,h=>exec_le S (n+m) c e H r (exec_le_add S n m c e H r h)
noncomputable def X (S:Sys) (c:TC) (e:Env) (H:Heap):Option Out :=
 open Classical in if h:∃ n r,exec S n c e H=some r then some h.choose_spec.choose else none
theorem X_some {S:Sys} {c:TC} {e:Env} {H:Heap} {r:Out}:X S c e H=some r ↔ ∃ n,exec S n c e H=some r:=by
 unfold X
 split
 ·rename_i h
  have h1:=h.choose_spec.choose_spec
  constructor
  ·intro hr
   cases hr
   exact ⟨_,h1⟩
  ·rintro ⟨n,hn⟩
   have a:=exec_le_add S n h.choose _ _ _ _ hn
   have b:=exec_le_add S h.choose n _ _ _ _ h1
   rw [Nat.add_comm] at b
   rw [a] at b
   exact b.symm
 ·rename_i h
  constructor
  ·intro hr;cases hr
  ·rintro ⟨n,hn⟩;exact absurd ⟨n,r,hn⟩ h
theorem exec_le_X (S:Sys) (n:Nat):Le (exec S n) (X S):=fun _ _ _ _ h=>X_some.2 ⟨n,h⟩
theorem callFn_X {S:Sys} {tf:TFn} {vs:List TV} {H:Heap} {r:TV×Heap} (hr:callFn (X S) tf vs H=some r):∃ n,callFn (exec S n) tf vs H=some r:=by
 unfold callFn at hr
 cases hf:X S tf.code (argEnv 0 vs) H with
 | none=>rw [hf] at hr;cases hr
 | some o =>
  obtain ⟨n,hn⟩:=X_some.1 hf
  refine ⟨n,?_⟩
  unfold callFn
  rw [hn]
  rw [hf] at hr
  exact hr
theorem runOp_X {S:Sys} {e:Env} {H:Heap} {o:TOp} {r:TV×Heap} (hr:runOp (X S) S e H o=some r):∃ n,runOp (exec S n) S e H o=some r:=by
 unfold runOp at hr
 cases o
 case call fn as =>
  dsimp only at hr
  split at hr
  ·rename_i tf htf
   obtain ⟨n,hn⟩:=callFn_X hr
   exact ⟨n,by unfold runOp;simp only [htf];exact hn⟩
  ·rename_i htf;exact ⟨0,by unfold runOp;simp only [htf];exact hr⟩
 case callv fn as =>
  dsimp only at hr
  split at hr
  ·rename_i g a b hg
   split at hr
   ·rename_i tf htf
    obtain ⟨n,hn⟩:=callFn_X hr
    exact ⟨n,by unfold runOp;simp only [hg,htf];exact hn⟩
   ·rename_i htf;exact ⟨0,by unfold runOp;simp only [hg,htf];exact hr⟩
  ·cases hr
 all_goals exact ⟨0,hr⟩
theorem runOps_X {S:Sys}:∀ {l:List TO} {e:Env} {H:Heap} {r:Env×Heap},runOps (X S) S l e H=some r→∃ n,runOps (exec S n) S l e H=some r
 | [],_,_,_,hr=>⟨0,hr⟩
 | ⟨d,none,o⟩::l,e,H,r,hr=>by
  unfold runOps at hr
  obtain ⟨v,H',h1,h2⟩:=thenOps_inv hr
  obtain ⟨n,hn⟩:=runOp_X h1
  obtain ⟨m,hm⟩:=runOps_X h2
  refine ⟨n+m,?_⟩
  unfold runOps
  rw [runOp_mono (exec_le_add S n m) hn]
  simp only [thenOps]
  rw [Nat.add_comm]
  exact runOps_mono (exec_le_add S m n) hm
 | ⟨d,some (t,w),o⟩::l,e,H,r,hr=>by
  unfold runOps at hr
  unfold guardOps at hr
  have go:∀ e1,(thenOps (runOp (X S) S e1 H o) fun v H'=>runOps (X S) S l (put e1 d v) H')=some r→∃ n,(thenOps (runOp (exec S n) S e1 H o) fun v H'=>runOps (exec S n) S l (put e1 d v) H')=some r:=fun e1 h=>by
   obtain ⟨v,H',h1,h2⟩:=thenOps_inv h
   obtain ⟨n,hn⟩:=runOp_X h1
   obtain ⟨m,hm⟩:=runOps_X h2
   refine ⟨n+m,?_⟩
   rw [runOp_mono (exec_le_add S n m) hn]
   simp only [thenOps]
   rw [Nat.add_comm]
   exact runOps_mono (exec_le_add S m n) hm
  split at hr
  ·rename_i b hb
   split at hr
   ·rename_i hbt
    split at hr
    ·rename_i hw
     obtain ⟨n,hn⟩:=go _ hr
     exact ⟨n,by unfold runOps guardOps;rw [hb];simp only [if_pos hbt,if_pos hw];exact hn⟩
    ·rename_i hw
     obtain ⟨n,hn⟩:=runOps_X hr
     exact ⟨n,by unfold runOps guardOps;rw [hb];simp only [if_pos hbt,if_neg hw];exact hn⟩
   ·rename_i hbt
    split at hr
    ·rename_i hw
     obtain ⟨n,hn⟩:=runOps_X hr
     exact ⟨n,by unfold runOps guardOps;rw [hb];simp only [if_neg hbt,if_pos hw];exact hn⟩
    ·rename_i hw
     obtain ⟨n,hn⟩:=go _ hr
     exact ⟨n,by unfold runOps guardOps;rw [hb];simp only [if_neg hbt,if_neg hw];exact hn⟩
  ·rename_i ht
   obtain ⟨n,hn⟩:=runOps_X hr
   exact ⟨n,by unfold runOps guardOps;rw [ht];exact hn⟩
  ·cases hr
theorem runF_X {S:Sys}:∀ {l:List (Option (List Nat)×TO)} {fl:List (Nat×TOp)} {e:Env} {H:Heap} {r:Env×Heap},runF (X S) S l fl e H=some r→∃ n,runF (exec S n) S l fl e H=some r
 | [],_,_,_,_,hr=>⟨0,hr⟩
 | (none,⟨some x,none,o⟩)::l,fl,e,H,r,hr=>by
  unfold runF at hr
  obtain ⟨v,N,h1,h2⟩:=thenOps_inv hr
  obtain ⟨rfl,h3⟩:=thenNil_inv h2
  obtain ⟨n,hn⟩:=runF_X h3
  exact ⟨n,by unfold runF;rw [h1];exact hn⟩
 | (none,⟨none,_,_⟩)::_,_,_,_,_,hr=>⟨0,hr⟩
 | (none,⟨some _,some _,_⟩)::_,_,_,_,_,hr=>⟨0,hr⟩
 | (some lt,⟨d,none,o⟩)::l,fl,e,H,r,hr=>by
  unfold runF at hr
  obtain ⟨v,H',h1,h2⟩:=thenOps_inv hr
  obtain ⟨h3,h4⟩:=lateGo_inv h2
  obtain ⟨n,hn⟩:=runOp_X h1
  obtain ⟨m,hm⟩:=runF_X h4
  refine ⟨n+m,?_⟩
  unfold runF
  rw [runOp_mono (exec_le_add S n m) hn]
  rw [Nat.add_comm]
  exact lateGo_mk h3 (runF_mono (exec_le_add S m n) hm)
 | (some lt,⟨d,some (t,w),o⟩)::l,fl,e,H,r,hr=>by
  unfold runF at hr
  unfold guardOps at hr
  have go:∀ e1,(thenOps (runOp (X S) S (keepEnv (topTmps o) e1) H o) fun v H'=>lateGo (lateF S fl (put e1 d v) H' lt) (runF (X S) S l fl (put e1 d v) H'))=some r→∃ n,(thenOps (runOp (exec S n) S (keepEnv (topTmps o) e1) H o) fun v H'=>lateGo (lateF S fl (put e1 d v) H' lt) (runF (exec S n) S l fl (put e1 d v) H'))=some r:=fun e1 h=>by
   obtain ⟨v,H',h1,h2⟩:=thenOps_inv h
   obtain ⟨h3,h4⟩:=lateGo_inv h2
   obtain ⟨n,hn⟩:=runOp_X h1
   obtain ⟨m,hm⟩:=runF_X h4
   refine ⟨n+m,?_⟩
   rw [runOp_mono (exec_le_add S n m) hn]
   rw [Nat.add_comm]
   exact lateGo_mk h3 (runF_mono (exec_le_add S m n) hm)
  split at hr
  ·rename_i b hb
   split at hr
   ·rename_i hbt
    split at hr
    ·rename_i hw
     obtain ⟨n,hn⟩:=go _ hr
     exact ⟨n,by unfold runF guardOps;rw [hb];simp only [if_pos hbt,if_pos hw];exact hn⟩
    ·rename_i hw
     obtain ⟨n,hn⟩:=runF_X hr
     exact ⟨n,by unfold runF guardOps;rw [hb];simp only [if_pos hbt,if_neg hw];exact hn⟩
   ·rename_i hbt
    split at hr
    ·rename_i hw
     obtain ⟨n,hn⟩:=runF_X hr
     exact ⟨n,by unfold runF guardOps;rw [hb];simp only [if_neg hbt,if_pos hw];exact hn⟩
    ·rename_i hw
     obtain ⟨n,hn⟩:=go _ hr
     exact ⟨n,by unfold runF guardOps;rw [hb];simp only [if_neg hbt,if_neg hw];exact hn⟩
  ·rename_i ht
   obtain ⟨n,hn⟩:=runF_X hr
   exact ⟨n,by unfold runF guardOps;rw [ht];exact hn⟩
  ·cases hr
theorem execF_X {S:Sys}:∀ {c:TC} {e:Env} {H:Heap} {r:Out},execF (X S) S c e H=some r→∃ n,execF (exec S n) S c e H=some r
 | .skip,_,_,_,hr=>⟨0,hr⟩
 | .bad,_,_,_,hr=>⟨0,hr⟩
 | .exit _,_,_,_,hr=>⟨0,hr⟩
 | .ret,_,_,_,hr=>⟨0,hr⟩
 | .keep k b,e,H,r,hr=>by
  unfold execF at hr
  cases hk:keepS k e H with
  | none=>rw [hk] at hr;cases hr
  | some p =>
   rw [hk] at hr
   obtain ⟨n,hn⟩:=execF_X hr
   exact ⟨n,by unfold execF;rw [hk];exact hn⟩
 | .trim l b,e,H,r,hr=>by
  unfold execF at hr
  obtain ⟨n,hn⟩:=execF_X hr
  exact ⟨n,by unfold execF;exact hn⟩
 | .fz t ids b,e,H,r,hr=>by
  unfold execF at hr
  obtain ⟨n,hn⟩:=execF_X hr
  exact ⟨n,by unfold execF;exact hn⟩
 | .after b k,e,H,r,hr=>by
  unfold execF at hr
  cases ha:execF (X S) S b e H with
  | none=>rw [ha] at hr;cases hr
  | some p =>
   rw [ha] at hr
   obtain ⟨n,hn⟩:=execF_X ha
   exact ⟨n,by unfold execF;rw [hn];exact hr⟩
 | .ops l,e,H,r,hr=>by
  unfold execF at hr
  cases ho:runOps (X S) S l e H with
  | none=>rw [ho] at hr;cases hr
  | some p =>
   rw [ho] at hr
   obtain ⟨n,hn⟩:=runOps_X ho
   exact ⟨n,by unfold execF;rw [hn];exact hr⟩
 | .draw hd tl,e,H,r,hr=>by
  unfold execF at hr
  cases hd':runDraw S H hd e [] with
  | none=>rw [hd'] at hr;cases hr
  | some p =>
   rw [hd'] at hr
   dsimp only at hr
   cases ho:runOps (X S) S tl p.1 (H++p.2.flatten) with
   | none=>rw [ho] at hr;cases hr
   | some q =>
    rw [ho] at hr
    obtain ⟨n,hn⟩:=runOps_X ho
    exact ⟨n,by unfold execF;rw [hd'];dsimp only;rw [hn];exact hr⟩
 | .drawF l tl,e,H,r,hr=>by
  unfold execF at hr
  cases hd':runF (X S) S l [] e H with
  | none=>rw [hd'] at hr;cases hr
  | some p =>
   rw [hd'] at hr
   dsimp only at hr
   cases ho:runOps (X S) S tl p.1 p.2 with
   | none=>rw [ho] at hr;cases hr
   | some q =>
    rw [ho] at hr
    obtain ⟨n,hn⟩:=runOps_X ho
    obtain ⟨m,hm⟩:=runF_X hd'
    exact ⟨n+m,by
     unfold execF
     have hm':=runF_mono (exec_le_add S m n) hm
     rw [Nat.add_comm] at hm'
     rw [hm']
     dsimp only
     rw [runOps_mono (exec_le_add S n m) hn]
     exact hr⟩
 | .seq a b,e,H,r,hr=>by
  unfold execF at hr
  cases ha:execF (X S) S a e H with
  | none=>rw [ha] at hr;cases hr
  | some p =>
   rw [ha] at hr
   obtain ⟨n,hn⟩:=execF_X ha
   obtain ⟨x,e',H'⟩:=p
   cases x
   ·obtain ⟨m,hm⟩:=execF_X hr
    refine ⟨n+m,?_⟩
    unfold execF
    rw [execF_mono (exec_le_add S n m) hn]
    dsimp only
    rw [Nat.add_comm]
    exact execF_mono (exec_le_add S m n) hm
   ·exact ⟨n,by unfold execF;rw [hn];exact hr⟩
   ·exact ⟨n,by unfold execF;rw [hn];exact hr⟩
 | .turn keep a b,e,H,r,hr=>by
  unfold execF at hr
  cases ha:execF (X S) S a (keepEnv keep e) H with
  | none=>rw [ha] at hr;cases hr
  | some p =>
   rw [ha] at hr
   obtain ⟨n,hn⟩:=execF_X ha
   obtain ⟨x,e',H'⟩:=p
   cases x
   ·obtain ⟨m,hm⟩:=execF_X hr
    refine ⟨n+m,?_⟩
    unfold execF
    rw [execF_mono (exec_le_add S n m) hn]
    dsimp only
    rw [Nat.add_comm]
    exact execF_mono (exec_le_add S m n) hm
   ·exact ⟨n,by unfold execF;rw [hn];exact hr⟩
   ·exact ⟨n,by unfold execF;rw [hn];exact hr⟩
 | .cond c a b,e,H,r,hr=>by
  unfold execF at hr
  split at hr
  ·rename_i t hc
   split at hr
   ·rename_i ht
    obtain ⟨n,hn⟩:=execF_X hr
    exact ⟨n,by unfold execF;rw [hc];simp only [ht,if_true];exact hn⟩
   ·rename_i ht
    obtain ⟨n,hn⟩:=execF_X hr
    exact ⟨n,by unfold execF;rw [hc];simp only [ht];exact hn⟩
  ·cases hr
 | .block id b,e,H,r,hr=>by
  unfold execF at hr
  cases ha:execF (X S) S b e H with
  | none=>rw [ha] at hr;cases hr
  | some p =>
   rw [ha] at hr
   obtain ⟨n,hn⟩:=execF_X ha
   exact ⟨n,by unfold execF;rw [hn];exact hr⟩
 | .loop keep b,e,H,r,hr=>by
  unfold execF at hr
  cases ha:execF (X S) S b (keepEnv keep e) H with
  | none=>rw [ha] at hr;cases hr
  | some p =>
   rw [ha] at hr
   obtain ⟨n,hn⟩:=execF_X ha
   obtain ⟨x,e',H'⟩:=p
   cases x
   ·obtain ⟨m,hm⟩:=X_some.1 hr
    refine ⟨n+m,?_⟩
    unfold execF
    rw [execF_mono (exec_le_add S n m) hn]
    dsimp only
    rw [Nat.add_comm]
    exact exec_le_add S m n _ _ _ _ hm
   ·exact ⟨n,by unfold execF;rw [hn];exact hr⟩
   ·exact ⟨n,by unfold execF;rw [hn];exact hr⟩
theorem X_unfold (S:Sys) (c:TC) (e:Env) (H:Heap):X S c e H=execF (X S) S c e H:=by
 apply Option.ext
 intro r
 constructor
 ·intro h
  obtain ⟨n,hn⟩:=X_some.1 h
  cases n with
  | zero=>cases hn
  | succ n=>exact execF_mono (exec_le_X S n) hn
 ·intro h
  obtain ⟨n,hn⟩:=execF_X h
  exact X_some.2 ⟨n+1,hn⟩
end Go.Proofs.TM
