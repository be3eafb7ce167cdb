import Derived.Test.YtlajjnljeebkkaaGreatDoorTSound
namespace Go.Proofs.TM
open Go
def trX:Operand→Option Opd
 | .tmp t=>some (.t t)
 | .const v=>(ofV v).map .c
 | .func f=>some (.c (.fn f [] []))
 | .global _=>none
theorem trX_ok {x:Operand} {y:Opd} (h:trX x=some y):TrX x y:=by
 cases x with
 | tmp t=>simp only [trX,Option.some.injEq] at h;subst h;exact .tmp _
 | const v=>simp only [trX,Option.map_eq_some_iff] at h;obtain ⟨tv,h1,rfl⟩:=h;exact .const _ _ h1
 | func f=>simp only [trX,Option.some.injEq] at h;subst h;exact .func _
 | global g=>cases h
def trXs:List Operand→Option (List Opd)
 | []=>some []
 | x::xs=>match trX x,trXs xs with
  | some y,some ys=>some (y::ys)
  | _,_=>none
theorem trXs_ok:∀ {xs:List Operand} {ys:List Opd},trXs xs=some ys→TrXs xs ys
 | [],ys,h=>by simp only [trXs,Option.some.injEq] at h;subst h;exact .nil
 | x::xs,ys,h=>by
  simp only [trXs] at h
  split at h
  ·rename_i y ys' h1 h2
   simp only [Option.some.injEq] at h;subst h
   exact .cons (trX_ok h1) (trXs_ok h2)
  ·cases h
def trXo (x:Option Operand):Option (Option Opd) :=
 match x with
 | none=>some none
 | some x=>(trX x).map some
theorem trXo_ok {x:Option Operand} {y:Option Opd} (h:trXo x=some y):TrXs x.toList y.toList:=by
 cases x with
 | none=>simp only [trXo,Option.some.injEq] at h;subst h;exact .nil
 | some x=>simp only [trXo,Option.map_eq_some_iff] at h;obtain ⟨z,h1,rfl⟩:=h;exact .cons (trX_ok h1) .nil
def bkOf (P:Program) (t:TypeId) (y:Opd):Option BK :=
 match P.underlying t with
 | some (.int _)=>some .num
 | some .string=>some .str
 | some .bool=>some .bool
 | some (.pointer _)=>match y with | .c .nilp=>some .nil | _=>none
 | some (.func _ _ _)=>match y with | .c .nilf=>some .nil | _=>none
 | some (.slice _)=>match y with | .c .nils=>some .nil | _=>none
 | some (.interface _)=>match y with | .c .nili=>some .nil | _=>none
 | some (.struct fs)=>if P.stoodInHeld t=false∧P.eqGuardType P.depth t=false then (fldKs P 0 fs.toList).map .agg else none
 | _=>none
theorem bkOf_ok {P:Program} {t:TypeId} {y:Opd} {k:BK} (h:bkOf P t y=some k):CmpTy P t y k:=by
 unfold bkOf at h
 split at h
 ·rename_i q;cases h;exact .num _ q
 ·rename_i q;cases h;exact .str q
 ·rename_i q;cases h;exact .bool q
 ·rename_i q;split at h <;> cases h;exact .ptr _ q rfl
 ·rename_i q;split at h <;> cases h;exact .func _ _ _ q rfl
 ·rename_i q;split at h <;> cases h;exact .slice _ q rfl
 ·rename_i q;split at h <;> cases h;exact .iface _ q rfl
 ·rename_i fs q
  split at h
  ·rename_i q2
   simp only [Option.map_eq_some_iff] at h
   obtain ⟨ks,h1,rfl⟩:=h
   have hf:P.fieldsOf t=fs:=by simp [Program.fieldsOf,q]
   exact .agg ks (by rw [hf];exact q) q2.1 q2.2 (by rw [hf];exact h1)
  ·cases h
 ·cases h
def zeroOf (P:Program) (t:TypeId):Option (List TV) :=
 match P.info? t with
 | some i=>match i.zero with
  | some z=>allSome (z.cells.toList.map ofV1)
  | none=>none
 | none=>none
theorem zeroOf_ok {P:Program} {t:TypeId} {zs:List TV} (h:zeroOf P t=some zs):∃ i z,P.info? t=some i∧i.zero=some z∧allSome (z.cells.toList.map ofV1)=some zs:=by
 unfold zeroOf at h
 split at h
 ·rename_i i hi
  split at h
  ·rename_i z hz;exact ⟨i,z,hi,hz,h⟩
  ·cases h
 ·cases h
def zeroB (P:Program) (t:TypeId):Bool :=
 match P.info? t with
 | some i=>match i.zero with
  | some z=>match z.cells.toList with
   | [.pointer none,.slice none 0 0]=>match P.underlying t with
    | some (.struct fs)=>match fs[0]? with
     | some f=>match P.underlying f.type with
      | some (.pointer t')=>t' == t
      | _=>false
     | none=>false
    | _=>false
   | _=>false
  | none=>false
 | none=>false
theorem zeroB_ok {P:Program} {t:TypeId} (h:zeroB P t=true):∃ i z,P.info? t=some i∧i.zero=some z∧z.cells=#[.pointer none,.slice none 0 0]:=by
 unfold zeroB at h
 split at h
 ·rename_i i hi
  split at h
  ·rename_i z hz
   split at h
   ·rename_i hc
    exact ⟨i,z,hi,hz,by rw [← Array.toArray_toList (xs:=z.cells),hc]⟩
   ·cases h
  ·cases h
 ·cases h
def trParts (places:List (Nat×Nat)):List (Nat×Operand)→Option (List (Nat×Nat×Opd))
 | []=>some []
 | (i,x)::ps=>match places[i]?,trX x,trParts places ps with
  | some (off,size),some y,some qs=>some ((off,size,y)::qs)
  | _,_,_=>none
theorem trParts_ok {places:List (Nat×Nat)}:∀ {ps:List (Nat×Operand)} {qs:List (Nat×Nat×Opd)},trParts places ps=some qs→TrParts places ps qs
 | [],qs,h=>by simp only [trParts,Option.some.injEq] at h;subst h;exact .nil
 | (i,x)::ps,qs,h=>by
  simp only [trParts] at h
  split at h
  ·rename_i off size y qs' h1 h2 h3
   simp only [Option.some.injEq] at h;subst h
   exact .cons h1 (trX_ok h2) (trParts_ok h3)
  ·cases h
def trItems:List (Nat×Operand)→Option (List (Nat×Opd))
 | []=>some []
 | (i,x)::ps=>match trX x,trItems ps with
  | some y,some qs=>some ((i,y)::qs)
  | _,_=>none
theorem trItems_ok:∀ {ps:List (Nat×Operand)} {qs:List (Nat×Opd)},trItems ps=some qs→TrItems ps qs
 | [],qs,h=>by simp only [trItems,Option.some.injEq] at h;subst h;exact .nil
 | (i,x)::ps,qs,h=>by
  simp only [trItems] at h
  split at h
  ·rename_i y qs' h1 h2
   simp only [Option.some.injEq] at h;subst h
   exact .cons (trX_ok h1) (trItems_ok h2)
  ·cases h
def placesOf (P:Program) (t:TypeId):Option (List (Nat×Nat)) :=
 match P.underlying t with
 | some (.struct fs)=>fs.toList.mapM fun f=>(P.info? f.type).map fun i=>(f.offset,i.size)
 | some (.array n el)=>(P.info? el).map fun i=>(List.range n).map fun k=>(k * i.size,i.size)
 | _=>none
def trConv (P:Program) (s d:TypeId):Option CK :=
 match P.underlying s,P.underlying d with
 | some .string,some .string=>some .same
 | some .string,some (.slice e)=>match P.underlying e with | some (.int .u8)=>some .toBytes | _=>none
 | some (.slice e),some .string=>match P.underlying e with | some (.int .u8)=>some .toStr | _=>none
 | some _,some (.int k)=>some (.toInt k)
 | _,_=>none
def strOrSlice:TypeDesc→Bool
 | .string | .slice _=>true
 | _=>false
theorem strOrSlice_ok {d:TypeDesc} (h:strOrSlice d=true):d=.string∨∃ e,d=.slice e:=by
 cases d <;> first | exact .inl rfl | exact .inr ⟨_,rfl⟩ | cases h
def dstOk (nt:Nat):Option Nat→Bool
 | some d=>decide (d < nt)
 | none=>true
def trCall (P:Program) (c:Call):Option TOp :=
 match c with
 | { callee:=.value (.func f),args,.. }=>(trXs args.toList).map (.call f)
 | { callee:=.value f,args,.. }=>match trX f,trXs args.toList with
  | some f',some xs=>some (.callv f' xs)
  | _,_=>none
 | { callee:=.builtin .len,args:=⟨[x]⟩,argTypes:=⟨[t]⟩ }=>match P.underlying t,trX x with
  | some .string,some y=>some (.len true y)
  | some (.slice _),some y=>some (.len false y)
  | _,_=>none
 | { callee:=.builtin .min,args:=⟨[x,y]⟩,.. }=>match trX x,trX y with
  | some x',some y'=>some (.mm false x' y')
  | _,_=>none
 | { callee:=.builtin .max,args:=⟨[x,y]⟩,.. }=>match trX x,trX y with
  | some x',some y'=>some (.mm true x' y')
  | _,_=>none
 | { callee:=.builtin .append,args:=⟨[x,y]⟩,argTypes:=⟨[t,u]⟩ }=>match P.underlying t,P.underlying u,trX x,trX y with
  | some (.slice el),some du,some x',some y'=>match P.info? el with
   | some i=>match i.zero with
    | some z=>if z.cells.size=i.size∧0 < i.size∧strOrSlice du=true then some (.append el i.size i.bytes x' y') else match du,zeroOf P el with
     | .int .i64,some zero=>if i.size=zero.length∧0 < i.size then some (.appz i.bytes zero x' y') else none
     | _,_=>none
    | none=>none
   | none=>none
  | _,_,_,_=>none
 | { callee:=.builtin .copy,args:=⟨[x,y]⟩,argTypes:=⟨[t,u]⟩ }=>match P.underlying t,trX x,trX y with
  | some (.slice el),some x',some y'=>(P.info? el).map fun i=>.copy i.size x' y'
  | _,_,_=>none
 | { callee:=.builtin .cap,args:=⟨[x]⟩,argTypes:=⟨[t]⟩ }=>match P.underlying t,trX x with
  | some (.slice _),some y=>some (.cap y)
  | _,_=>none
 | { callee:=.builtin .unsafeSliceData,args:=⟨[x]⟩,.. }=>(trX x).map .sdata
 | { callee:=.builtin .unsafeString,args:=⟨[x,y]⟩,argTypes:=⟨[pt,it]⟩ }=>match P.underlying pt,trX x,trX y with
  | some (.pointer e),some x',some y'=>if P.cellsOf e=1 then some (.ustr e x' y') else none
  | _,_,_=>none
 | _=>none
theorem trCall_ok {P:Program} {c:Call} {top:TOp} (h:trCall P c=some top):TrOp P (.call c) top:=by
 unfold trCall at h
 split at h
 ·simp only [Option.map_eq_some_iff] at h;obtain ⟨xs,h1,rfl⟩:=h;exact .call (trXs_ok h1)
 ·split at h
  ·rename_i f' xs h1 h2;cases h;exact .callv (trX_ok h1) (trXs_ok h2)
  ·cases h
 ·split at h
  ·rename_i y h1 h2;cases h;exact .lenS h1 (trX_ok h2)
  ·rename_i e y h1 h2;cases h;exact .len h1 (trX_ok h2)
  ·cases h
 ·split at h
  ·rename_i x' y' h1 h2;cases h;exact .min (trX_ok h1) (trX_ok h2)
  ·cases h
 ·split at h
  ·rename_i x' y' h1 h2;cases h;exact .max (trX_ok h1) (trX_ok h2)
  ·cases h
 ·split at h
  ·rename_i el du x' y' h1 hu h2 h3
   split at h
   ·rename_i i hi
    split at h
    ·rename_i z hz
     split at h
     ·rename_i hh
      obtain ⟨q1,q2,q3⟩:=hh
      cases h
      exact .append h1 hu (strOrSlice_ok q3) hi hz q1 q2 (trX_ok h2) (trX_ok h3)
     ·split at h
      ·rename_i zero hzo _
       split at h
       ·rename_i hh
        cases h
        obtain ⟨i',zz,q1,q2,q3⟩:=zeroOf_ok hzo
        rw [hi] at q1
        cases q1
        exact .appz h1 hu hi q2 q3 hh.1 hh.2 (trX_ok h2) (trX_ok h3)
       ·cases h
      ·cases h
    ·cases h
   ·cases h
  ·cases h
 ·split at h
  ·rename_i el x' y' h1 h2 h3
   simp only [Option.map_eq_some_iff] at h
   obtain ⟨i,hi,rfl⟩:=h
   exact .copy h1 hi (trX_ok h2) (trX_ok h3)
  ·cases h
 ·split at h
  ·rename_i e y h1 h2;cases h;exact .cap h1 (trX_ok h2)
  ·cases h
 ·simp only [Option.map_eq_some_iff] at h;obtain ⟨y,h1,rfl⟩:=h;exact .sdata (trX_ok h1)
 ·split at h
  ·rename_i e x' y' h1 h2 h3
   split at h
   ·rename_i hc
    cases h
    exact .ustr h1 hc (trX_ok h2) (trX_ok h3)
   ·cases h
  ·cases h
 ·cases h
def trOp (P:Program):Op→Option TOp
 | .move x=>(trX x).map .mv
 | .assign x=>(trX x).map .mv
 | .pick c a b=>match trX c,trX a,trX b with
  | some c',some a',some b'=>some (.pick c' a' b')
  | _,_,_=>none
 | .alloc t=>if zeroB P t=true then some (.allocB t) else (zeroOf P t).map .alloc
 | .box _ x=>(trX x).map .box
 | .build t ps=>match zeroOf P t,placesOf P t with
  | some z,some pl=>(trParts pl ps.toList).map (.build z)
  | _,_=>none
 | .buildSlice t n ps=>match P.underlying t with
  | some (.slice el)=>match P.info? el,zeroOf P el,trItems ps.toList with
   | some i,some z,some qs=>if i.size=z.length∧n * z.length≤16777216 then some (.bslice z n qs) else none
   | _,_,_=>none
  | _=>none
 | .load t x=>match aggSize P t,trX x with
  | some n,some y=>some (.load n y)
  | _,_=>none
 | .store t x y=>match P.info? t,trX x,trX y with
  | some i,some x',some y'=>some (.store i.size x' y')
  | _,_,_=>none
 | .nilCheck x=>(trX x).map .nilchk
 | .binOp op t x y _=>match trX x,trX y with
  | some x',some y'=>(bkOf P t y').map fun k=>.bin k op x' y'
  | _,_=>none
 | .unOp op _ x=>(trX x).map (.un op)
 | .convert s d x=>match trConv P s d,trX x with
  | some k,some y=>some (.conv k y)
  | _,_=>none
 | .makeFunc (.func f) a b=>match trXs a.toList,trXs b.toList with
  | some a',some b'=>some (.mkfn f a' b')
  | _,_=>none
 | .makeSlice t x y=>match P.underlying t with
  | some (.slice el)=>match P.info? el,zeroOf P el,trX x,trX y with
   | some i,some z,some x',some y'=>if i.size=z.length then some (.mkslice i.bytes z x' y') else none
   | _,_,_,_=>none
  | _=>none
 | .slice t x lo hi mx=>match P.underlying t,trX x,trXo lo,trXo hi,trXo mx with
  | some .string,some x',some lo',some hi',some mx'=>if mx=none then some (.sliceS x' lo' hi') else none
  | some (.slice el),some x',some lo',some hi',some mx'=>(P.info? el).map fun i=>.slice i.size x' lo' hi' mx'
  | _,_,_,_,_=>none
 | .fieldAddr s x f=>match P.underlying s,trX x with
  | some (.struct fs),some y=>match fs[f]? with
   | some fd=>match P.info? fd.type with
    | some i=>if i.size ≠ 0 then some (.faddr fd.offset y) else none
    | none=>none
   | none=>none
  | _,_=>none
 | .indexAddr t x i=>match P.underlying t,trX x,trX i with
  | some (.slice el),some x',some i'=>(P.info? el).map fun j=>.iaddr j.size x' i'
  | _,_,_=>none
 | .index t x i=>match P.underlying t,trX x,trX i with
  | some .string,some x',some i'=>some (.index x' i')
  | some (.array n el),some x',some i'=>match P.underlying el,P.info? el with
   | some .string,some j=>if j.size=1 then some (.indexA n x' i') else none
   | _,_=>none
  | _,_,_=>none
 | .extract x n=>(trX x).map (.ext · n)
 | .call c=>trCall P c
 | _=>none
theorem trOp_ok {P:Program} {op:Op} {top:TOp} (h:trOp P op=some top):TrOp P op top:=by
 unfold trOp at h
 split at h
 ·simp only [Option.map_eq_some_iff] at h;obtain ⟨y,h1,rfl⟩:=h;exact .move (trX_ok h1)
 ·simp only [Option.map_eq_some_iff] at h;obtain ⟨y,h1,rfl⟩:=h;exact .assign (trX_ok h1)
 ·split at h
  ·rename_i h1 h2 h3;cases h;exact .pick (trX_ok h1) (trX_ok h2) (trX_ok h3)
  ·cases h
 ·split at h
  ·rename_i hz
   cases h
   obtain ⟨i,z,q1,q2,q3⟩:=zeroB_ok hz
   exact .allocB q1 q2 q3
  ·simp only [Option.map_eq_some_iff] at h;obtain ⟨z,h1,rfl⟩:=h;obtain ⟨i,zz,q1,q2,q3⟩:=zeroOf_ok h1;exact .alloc q1 q2 q3
 ·simp only [Option.map_eq_some_iff] at h;obtain ⟨y,h1,rfl⟩:=h;exact .box (trX_ok h1)
 ·split at h
  ·rename_i z pl h1 h2
   simp only [Option.map_eq_some_iff] at h
   obtain ⟨qs,h3,rfl⟩:=h
   obtain ⟨i,zz,q1,q2,q3⟩:=zeroOf_ok h1
   unfold placesOf at h2
   split at h2
   ·rename_i fs hu;exact .build q1 hu q2 q3 h2 (trParts_ok h3)
   ·rename_i n el hu
    simp only [Option.map_eq_some_iff] at h2
    obtain ⟨ie,q4,rfl⟩:=h2
    exact .buildA q1 hu q4 q2 q3 (trParts_ok h3)
   ·cases h2
  ·cases h
 ·split at h
  ·rename_i el hu
   split at h
   ·rename_i i z qs h1 h2 h3
    split at h
    ·rename_i hh
     cases h
     obtain ⟨i',zz,q1,q2,q3⟩:=zeroOf_ok h2
     rw [h1] at q1
     cases q1
     exact .bslice hu h1 q2 q3 hh.1 hh.2 (trItems_ok h3)
    ·cases h
   ·cases h
  ·cases h
 ·split at h
  ·rename_i h1 h2;cases h;exact .load h1 (trX_ok h2)
  ·cases h
 ·split at h
  ·rename_i h1 h2 h3;cases h;exact .store h1 (trX_ok h2) (trX_ok h3)
  ·cases h
 ·simp only [Option.map_eq_some_iff] at h;obtain ⟨y,h1,rfl⟩:=h;exact .nilchk (trX_ok h1)
 ·split at h
  ·rename_i h1 h2;simp only [Option.map_eq_some_iff] at h;obtain ⟨k,h3,rfl⟩:=h;exact .bin (bkOf_ok h3) (trX_ok h1) (trX_ok h2)
  ·cases h
 ·simp only [Option.map_eq_some_iff] at h;obtain ⟨y,h1,rfl⟩:=h;exact .un (trX_ok h1)
 ·split at h
  ·rename_i k y h1 h2
   cases h
   unfold trConv at h1
   split at h1
   ·rename_i q1 q2;cases h1;exact .same q1 q2 (trX_ok h2)
   ·rename_i q1 q2;split at h1 <;> cases h1;rename_i q3;exact .toBytes q1 q2 q3 (trX_ok h2)
   ·rename_i q1 q2;split at h1 <;> cases h1;rename_i q3;exact .toStr q1 q2 q3 (trX_ok h2)
   ·rename_i q1 q2;cases h1;exact .toInt q1 q2 (trX_ok h2)
   ·cases h1
  ·cases h
 ·split at h
  ·rename_i h1 h2;cases h;exact .mkfn (trXs_ok h1) (trXs_ok h2)
  ·cases h
 ·split at h
  ·rename_i el hu
   split at h
   ·rename_i i z x' y' h1 h2 h3 h4
    split at h
    ·rename_i hh
     cases h
     obtain ⟨i',zz,q1,q2,q3⟩:=zeroOf_ok h2
     rw [h1] at q1
     cases q1
     exact .mkslice hu h1 q2 q3 hh (trX_ok h3) (trX_ok h4)
    ·cases h
   ·cases h
  ·cases h
 ·split at h
  ·rename_i hu h1 h2 h3 h4
   split at h
   ·rename_i hmx;subst hmx;cases h;exact .sliceS hu (trX_ok h1) (trXo_ok h2) (trXo_ok h3)
   ·cases h
  ·rename_i el x' lo' hi' mx' hu h1 h2 h3 h4
   simp only [Option.map_eq_some_iff] at h
   obtain ⟨i,h5,rfl⟩:=h
   exact .slice hu h5 (trX_ok h1) (trXo_ok h2) (trXo_ok h3) (trXo_ok h4)
  ·cases h
 ·split at h
  ·rename_i fs y hu h1
   split at h
   ·rename_i fd hfd
    split at h
    ·rename_i i hi
     split at h
     ·rename_i hz;cases h;exact .faddr hu hfd hi hz (trX_ok h1)
     ·cases h
    ·cases h
   ·cases h
  ·cases h
 ·split at h
  ·rename_i el x' i' hu h1 h2
   simp only [Option.map_eq_some_iff] at h
   obtain ⟨j,h3,rfl⟩:=h
   exact .iaddr hu h3 (trX_ok h1) (trX_ok h2)
  ·cases h
 ·split at h
  ·rename_i hu h1 h2;cases h;exact .index hu (trX_ok h1) (trX_ok h2)
  ·rename_i n el x' i' hu h1 h2
   split at h
   ·rename_i j hel hj
    split at h
    ·rename_i hs;cases h;exact .indexA hu hel hj hs (trX_ok h1) (trX_ok h2)
    ·cases h
   ·cases h
  ·cases h
 ·simp only [Option.map_eq_some_iff] at h;obtain ⟨y,h1,rfl⟩:=h;exact .ext (trX_ok h1)
 ·exact trCall_ok h
 ·cases h
def trG (ops:Array Oper):Option (Nat×Bool)→Option (Option (Nat×Bool))
 | none=>some none
 | some (j,want)=>((ops[j]?).bind (·.dst)).map fun t=>some (t,want)
def trO (P:Program) (nt:Nat) (ops:Array Oper) (o:Oper):Option TO :=
 match trOp P o.op,trG ops o.guard with
 | some top,some g=>if dstOk nt o.dst=true then some { dst:=o.dst,guard:=g,op:=top } else none
 | _,_=>none
theorem trO_ok {P:Program} {nt:Nat} {ops:Array Oper} {o:Oper} {to:TO} (h:trO P nt ops o=some to):TrO P nt ops o to:=by
 unfold trO at h
 split at h
 ·rename_i top g h1 h2
  split at h
  ·rename_i hd
   cases h
   refine ⟨trOp_ok h1,rfl,fun d hdd=>by rw [hdd] at hd;simpa [dstOk] using hd,?_⟩
   generalize o.guard=og at h2
   cases og with
   | none=>simp only [trG,Option.some.injEq] at h2;subst h2;exact .none
   | some p =>
    obtain ⟨j,want⟩:=p
    simp only [trG,Option.map_eq_some_iff] at h2
    obtain ⟨t,h3,rfl⟩:=h2
    exact .some h3
  ·cases h
 ·cases h
def trOs (P:Program) (nt:Nat) (ops:Array Oper):List Oper→Option (List TO)
 | []=>some []
 | o::os=>match trO P nt ops o,trOs P nt ops os with
  | some t,some ts=>some (t::ts)
  | _,_=>none
theorem trOs_ok {P:Program} {nt:Nat} {ops:Array Oper}:∀ {os:List Oper} {ts:List TO},trOs P nt ops os=some ts→TrOs P nt ops os ts
 | [],ts,h=>by simp only [trOs,Option.some.injEq] at h;subst h;exact .nil
 | o::os,ts,h=>by
  simp only [trOs] at h
  split at h
  ·rename_i h1 h2;cases h;exact .cons (trO_ok h1) (trOs_ok h2)
  ·cases h
def insN (x:Nat):List Nat→List Nat
 | []=>[x]
 | y::ys=>if x < y then x::y::ys else if x=y then y::ys else y::insN x ys
def unionN (a b:List Nat):List Nat:=a.foldl (fun s x=>insN x s) b
def ancsFrom:List Oper→List (List Nat)→List (List Nat)
 | [],acc=>acc
 | o::os,acc=>ancsFrom os (acc++[(edges o).foldl (fun s j=>unionN (acc.getD j []) s) (unionN (edges o) [])])
def trDraw (P:Program) (nt:Nat) (ops:Array Oper) (n:Nat):Option TC :=
 match trOs P nt ops ops.toList with
 | some tos=>if P.follows .mixedOrders && drawOk ops tos n (ancsFrom ops.toList []) then some (.draw (((ancsFrom ops.toList []).zip tos).take n) (tos.drop n)) else none
 | none=>none
def trDrawF (P:Program) (nt:Nat) (ops:Array Oper) (n:Nat) (lates:List (Option (List Nat))):Option TC :=
 match trOs P nt ops ops.toList with
 | some tos=>if P.follows .mixedOrders && drawFOk ops (tos.map skO) n lates (ancsFrom ops.toList []) then some (.drawF ((lates.zip tos).take n) (tos.drop n)) else none
 | none=>none
def decL:Nat→List Nat→List (Option (List Nat))
 | f+1,0::r=>none::decL f r
 | f+1,(m+1)::r=>some (r.take m)::decL f (r.drop m)
 | _,_=>[]
def trTurns (f:List (List Nat)→Option (TC×List (List Nat))) (keep:List Nat):Nat→List (List Nat)→Option (TC×List (List Nat))
 | 0,ks=>some (.bad,ks)
 | n+1,ks=>match f ks with
  | some (b,ks')=>(trTurns f keep n ks').map fun p=>(.turn keep b p.1,p.2)
  | none=>none
theorem trTurns_ok {P:Program} {nt:Nat} {a:Code} {f:List (List Nat)→Option (TC×List (List Nat))} (hf:∀ ks tc ks',f ks=some (tc,ks')→TrC P nt a tc) (keep:List Nat):∀ (n:Nat) (ks ks':List (List Nat)) (tc:TC),trTurns f keep n ks=some (tc,ks')→TrC P nt (.loop a) tc
 | 0,ks,ks',tc,h=>by simp only [trTurns,Option.some.injEq,Prod.mk.injEq] at h;obtain ⟨rfl,rfl⟩:=h;exact .bad
 | n+1,ks,ks',tc,h=>by
  simp only [trTurns] at h
  split at h
  ·rename_i b k1 h1
   simp only [Option.map_eq_some_iff,Prod.mk.injEq] at h
   obtain ⟨p,h2,rfl,rfl⟩:=h
   exact .turn (hf _ _ _ h1) (trTurns_ok hf keep n _ _ _ h2)
  ·cases h
def cutAt:List (List Nat)→List (List Nat) ⊕ List (List Nat)
 | [2000002,0]::ks=>.inl ks
 | [2000002,n+1]::ks=>.inr ([2000002,n]::ks)
 | ks=>.inr ks
def trC (P:Program) (nt:Nat):Code→List (List Nat)→Option (TC×List (List Nat))
 | .skip,ks=>some (.skip,ks)
 | .region _ ops false,ks=>match trOs P nt ops ops.toList with
  | some l=>some (.ops l,ks)
  | none=>some (.bad,ks)
 | .region _ ops true,(n::σ)::ks=>if reordOk σ ops then (trDraw P nt (reord σ ops) n).map fun l=>(l,ks) else match σ with
  | 2000000::k::r=>if reordOk (r.take k) ops then (trDrawF P nt (reord (r.take k) ops) n (decL r.length (r.drop k))).map fun l=>(l,ks) else none
  | _=>none
 | .seq a b,ks=>match trC P nt a ks with
  | some (a',ks')=>match cutAt ks' with
   | .inl k=>some (.seq a' .bad,k)
   | .inr k=>match trC P nt b k with
    | some (b',ks'')=>some (.seq a' b',ks'')
    | none=>none
  | none=>none
 | .cond c a b,ks=>match trX c,trC P nt a ks with
  | some c',some (a',ks')=>match trC P nt b ks' with
   | some (b',ks'')=>some (.cond c' a' b',ks'')
   | none=>none
  | _,_=>none
 | .block id a,ks=>match trC P nt a ks with
  | some (a',ks')=>some (.block id a',ks')
  | none=>none
 | .loop a,k::ks=>match k with
  | 2000001::n::k=>trTurns (fun ks=>trC P nt a ks) k n ks
  | k=>match trC P nt a ks with
   | some (a',ks')=>some (.loop k a',ks')
   | none=>none
 | .exit id,ks=>some (.exit id,ks)
 | .ret,ks=>some (.ret,ks)
 | _,_=>none
theorem trC_ok {P:Program} {nt:Nat}:∀ {c:Code} {ks ks':List (List Nat)} {tc:TC},trC P nt c ks=some (tc,ks')→TrC P nt c tc
 | .skip,ks,ks',tc,h=>by simp only [trC,Option.some.injEq,Prod.mk.injEq] at h;obtain ⟨rfl,rfl⟩:=h;exact .skip
 | .region id ops false,ks,ks',tc,h=>by
  simp only [trC] at h
  split at h
  ·rename_i l h1;simp only [Option.some.injEq,Prod.mk.injEq] at h;obtain ⟨rfl,rfl⟩:=h;exact .ops (trOs_ok h1).l
  ·simp only [Option.some.injEq,Prod.mk.injEq] at h;obtain ⟨rfl,rfl⟩:=h;exact .bad
 | .region id ops true,[],ks',tc,h=>by simp only [trC] at h;cases h
 | .region id ops true,[]::ks,ks',tc,h=>by simp only [trC] at h;cases h
 | .region id ops true,(n::r)::ks,ks',tc,h=>by
  simp only [trC] at h
  split at h
  case isFalse =>
   split at h
   ·split at h
    case isFalse=>cases h
    rename_i hro
    simp only [Option.map_eq_some_iff,Prod.mk.injEq] at h
    obtain ⟨l,h1,rfl,rfl⟩:=h
    unfold trDrawF at h1
    split at h1
    ·rename_i tos h2
     split at h1
     ·rename_i hc
      rw [Bool.and_eq_true] at hc
      cases h1
      exact .drawF (Reord.of hro) hc.1 (trOs_ok h2) hc.2 ((trOs_ok h2).drop n).l
     ·cases h1
    ·cases h1
   ·cases h
  rename_i hro
  simp only [Option.map_eq_some_iff,Prod.mk.injEq] at h
  obtain ⟨l,h1,rfl,rfl⟩:=h
  unfold trDraw at h1
  split at h1
  ·rename_i tos h2
   split at h1
   ·rename_i hc
    rw [Bool.and_eq_true] at hc
    cases h1
    exact .draw (Reord.of hro) hc.1 (trOs_ok h2) hc.2 ((trOs_ok h2).drop n).l
   ·cases h1
  ·cases h1
 | .seq a b,ks,ks',tc,h=>by
  simp only [trC] at h
  split at h
  ·rename_i a' k1 h1
   split at h
   ·cases h;exact .seq (trC_ok h1) .bad
   ·split at h
    ·rename_i b' k2 h2;cases h;exact .seq (trC_ok h1) (trC_ok h2)
    ·cases h
  ·cases h
 | .cond c a b,ks,ks',tc,h=>by
  simp only [trC] at h
  split at h
  ·rename_i c' a' k1 h0 h1
   split at h
   ·rename_i b' k2 h2;cases h;exact .cond (trX_ok h0) (trC_ok h1) (trC_ok h2)
   ·cases h
  ·cases h
 | .block id a,ks,ks',tc,h=>by
  simp only [trC] at h
  split at h
  ·rename_i a' k1 h1;cases h;exact .block (trC_ok h1)
  ·cases h
 | .loop a,[],ks',tc,h=>by simp only [trC] at h;cases h
 | .loop a,k::ks,ks',tc,h=>by
  simp only [trC] at h
  split at h
  ·rename_i n k1;exact trTurns_ok (fun ks tc ks' hh=>trC_ok hh) k1 n _ _ _ h
  ·split at h
   ·rename_i a' k1 h1;cases h;exact .loop (trC_ok h1)
   ·cases h
 | .exit id,ks,ks',tc,h=>by simp only [trC,Option.some.injEq,Prod.mk.injEq] at h;obtain ⟨rfl,rfl⟩:=h;exact .exit
 | .ret,ks,ks',tc,h=>by simp only [trC,Option.some.injEq,Prod.mk.injEq] at h;obtain ⟨rfl,rfl⟩:=h;exact .ret
 | .rangeFunc ..,ks,ks',tc,h=>by simp only [trC] at h;cases h
 | .scope ..,ks,ks',tc,h=>by simp only [trC] at h;cases h
 | .label ..,ks,ks',tc,h=>by simp only [trC] at h;cases h
 | .goto ..,ks,ks',tc,h=>by simp only [trC] at h;cases h
 | .refuse ..,ks,ks',tc,h=>by simp only [trC] at h;cases h
def trR (P:Program):List ResultVar→Option (List TRes)
 | []=>some []
 | .tmp t::rs=>(trR P rs).map (.t t::·)
 | .cell a t::rs=>match aggSize P t,trR P rs with
  | some n,some r=>some (.cell a n::r)
  | _,_=>none
theorem trR_ok {P:Program}:∀ {rs:List ResultVar} {r:List TRes},trR P rs=some r→TrR P rs r
 | [],r,h=>by simp only [trR,Option.some.injEq] at h;subst h;exact .nil
 | .tmp t::rs,r,h=>by simp only [trR,Option.map_eq_some_iff] at h;obtain ⟨r',h1,rfl⟩:=h;exact .tmp (trR_ok h1)
 | .cell a t::rs,r,h=>by
  simp only [trR] at h
  split at h
  ·rename_i h1 h2;cases h;exact .cell h1 (trR_ok h2)
  ·cases h
def eraseOp:TOp→TOp
 | .callM f _ _ as=>.call f as
 | .callvM f _ _ as=>.callv f as
 | .recut sz x lo hi=>.slice sz x lo hi none
 | .ovl f x y=>.call f [x,y]
 | o=>o
def eraseO (o:TO):TO:=⟨o.dst,o.guard,eraseOp o.op⟩
def isFrz (o:TO):Bool:=match o with
 | ⟨some t,none,.frz _ (.t u)⟩=>t == u
 | _=>false
def eraseL:List TO→List TO
 | []=>[]
 | o::l=>if isFrz o then eraseL l else eraseO o::eraseL l
def eraseC:TC→TC
 | .skip=>.skip
 | .bad=>.bad
 | .ops l=>.ops (eraseL l)
 | .draw hd tl=>.draw hd (eraseL tl)
 | .drawF l tl=>.drawF (l.map fun p=>(p.1,eraseO p.2)) (eraseL tl)
 | .seq a b=>.seq (eraseC a) (eraseC b)
 | .cond c a b=>.cond c (eraseC a) (eraseC b)
 | .block id b=>.block id (eraseC b)
 | .loop k b=>.loop k (eraseC b)
 | .turn k a b=>.turn k (eraseC a) (eraseC b)
 | .exit id=>.exit id
 | .ret=>.ret
 | .keep _ b=>eraseC b
 | .after b _=>eraseC b
 | .trim _ b=>eraseC b
 | .fz _ _ b=>eraseC b
theorem ovl_of {P:Program} {f:Nat} {args:Array Operand} {ts:Array TypeId} {x y:Opd} (h:TrXs args.toList [x,y]):TrOp P (.call { callee:=.value (.func f),args:=args,argTypes:=ts }) (.ovl f x y):=by
 obtain ⟨l⟩:=args
 simp only at h
 cases h with
 | cons hx h1 =>
  cases h1 with
  | cons hy h2 =>
   cases h2
   exact .ovl hx hy
theorem eraseOp_ok {P:Program} {op:Op}:∀ {o:TOp},TrOp P op (eraseOp o)→TrOp P op o:=fun {o} h=>by
 cases o with
 | callM f tag ids as=>simp only [eraseOp] at h;cases h with | call hx=>exact .callM hx
 | callvM f tag ids as=>simp only [eraseOp] at h;cases h with | callv hf hx=>exact .callvM hf hx
 | recut sz x lo hi =>
  simp only [eraseOp] at h
  cases h with
  | @slice t e i x lo hi mx x' lo' hi' mx' ht hin hx hlo hhi hmx =>
   cases mx with
   | none=>exact .recut ht hin hx hlo hhi
   | some m=>cases hmx
 | ovl f x y =>
  simp only [eraseOp] at h
  cases h with
  | call hx=>exact ovl_of hx
 | _=>exact h
theorem eraseO_ok {P:Program} {nt:Nat} {ops:Array Oper} {o:Oper} {to:TO} (h:TrO P nt ops o (eraseO to)):TrO P nt ops o to:=by
 obtain ⟨h1,h2,h3,h4⟩:=h
 exact ⟨eraseOp_ok h1,h2,h3,h4⟩
theorem eraseL_ok {P:Program} {nt:Nat} {ops:Array Oper}:∀ {ts:List TO} {os:List Oper},TrL P nt ops os (eraseL ts)→TrL P nt ops os ts
 | [],os,h=>h
 | o::ts,os,h=>by
  simp only [eraseL] at h
  split at h
  ·rename_i hf
   unfold isFrz at hf
   split at hf
   ·rename_i t ids u
    have:t=u:=by simpa using hf
    subst this
    exact .frz (eraseL_ok h)
   ·cases hf
  ·generalize hq:eraseO o::eraseL ts=q at h
   cases h with
   | nil=>cases hq
   | cons h1 h2 =>
    simp only [List.cons.injEq] at hq
    obtain ⟨rfl,rfl⟩:=hq
    exact .cons (eraseO_ok h1) (eraseL_ok h2)
   | @frz t ids os tos hs =>
    simp only [List.cons.injEq] at hq
    obtain ⟨hq1,rfl⟩:=hq
    obtain ⟨d,g,op⟩:=o
    simp only [eraseO,TO.mk.injEq] at hq1
    obtain ⟨rfl,rfl,h3⟩:=hq1
    rename_i hnf
    cases op <;> simp only [eraseOp] at h3 <;> try cases h3
    exact absurd (by simp [isFrz]) hnf
theorem skO_erase (o:TO):skO (eraseO o)=skO o:=by
 obtain ⟨d,g,op⟩:=o
 have:topTmps (eraseOp op)=topTmps op:=by cases op <;> simp [eraseOp,topTmps]
 simp only [skO,eraseO,toTmps,this]
theorem zipSnd {α β:Type} {a:List α} {b:List β} {n:Nat} (h1:n≤a.length) (h2:n≤b.length):b.take n=((a.zip b).take n).map (·.2):=by
 refine List.ext_getElem (by simp;omega) fun i g1 g2=>?_
 simp
theorem zip_back {α β:Type} {n:Nat} (l:List (α×β)) (r:List β) (h:l.length=n):((l.map (·.1)).zip (l.map (·.2)++r)).take n=l:=by
 refine List.ext_getElem (by simp;omega) fun i g1 g2=>?_
 simp [List.getElem_append,g2]
theorem TrOs.erased {P:Program} {nt:Nat} {ops:Array Oper}:∀ {os:List Oper} {tos:List TO},TrOs P nt ops os tos→∀ l:List TO,l.map eraseO=tos.take l.length→TrOs P nt ops os (l++tos.drop l.length)∧(l++tos.drop l.length).map skO=tos.map skO
 | os,tos,h,[],_=>⟨h,rfl⟩
 | os,tos,h,x::l,hx=>by
  cases h with
  | nil=>simp at hx
  | @cons o to os tos h1 h2 =>
   simp only [List.map_cons,List.length_cons,List.take_succ_cons,List.cons.injEq] at hx
   obtain ⟨rfl,hx⟩:=hx
   obtain ⟨g1,g2⟩:=TrOs.erased h2 l hx
   refine ⟨.cons (eraseO_ok h1) g1,?_⟩
   simp only [List.length_cons,List.drop_succ_cons,List.cons_append,List.map_cons,g2,skO_erase]
theorem eraseC_ok {P:Program} {nt:Nat}:∀ {tc:TC} {c:Code},TrC P nt c (eraseC tc)→TrC P nt c tc
 | .skip,c,h=>h
 | .bad,c,h=>.bad
 | .exit _,c,h=>h
 | .ret,c,h=>h
 | .keep k b,c,h=>.keep (eraseC_ok h)
 | .after b k,c,h=>.after (eraseC_ok h)
 | .trim l b,c,h=>.trim (eraseC_ok h)
 | .fz t l b,c,h=>.fz (eraseC_ok h)
 | .ops l,c,h=>by simp only [eraseC] at h;cases h with | ops h=>exact .ops (eraseL_ok h)
 | .seq a b,c,h=>by simp only [eraseC] at h;cases h with | seq h1 h2=>exact .seq (eraseC_ok h1) (eraseC_ok h2)
 | .cond x a b,c,h=>by simp only [eraseC] at h;cases h with | cond h0 h1 h2=>exact .cond h0 (eraseC_ok h1) (eraseC_ok h2)
 | .block id b,c,h=>by simp only [eraseC] at h;cases h with | block h1=>exact .block (eraseC_ok h1)
 | .loop k b,c,h=>by simp only [eraseC] at h;cases h with | loop h1=>exact .loop (eraseC_ok h1)
 | .turn k a b,c,h=>by simp only [eraseC] at h;cases h with | turn h1 h2=>exact .turn (eraseC_ok h1) (eraseC_ok h2)
 | .draw hd tl,c,h=>by
  simp only [eraseC] at h
  generalize hq:eraseL tl=tl' at h
  cases h with
  | draw hp hm h hok ht =>
   subst hq
   exact .draw hp hm h hok (eraseL_ok ht)
 | .drawF l tl,c,h=>by
  simp only [eraseC] at h
  generalize hq:eraseL tl=tl' at h
  generalize hl:(l.map fun p=>(p.1,eraseO p.2))=l' at h
  cases h with
  | @drawF id ops0 ops tos n lates ancs tl hp hm h hok ht =>
   subst hq
   have hlen:tos.length=ops.size:=by simpa using h.length
   have hn:n≤ops.size∧lates.length=n:=by
    unfold drawFOk at hok
    simp only [Bool.and_eq_true,decide_eq_true_eq] at hok
    exact ⟨hok.1.1.1.1,hok.1.1.2⟩
   have hll:l.length=n:=by
    have:=congrArg List.length hl
    simp at this;omega
   have h1:l.map (·.1)=lates:=by
    have:=congrArg (List.map (·.1)) hl
    rw [List.map_map] at this
    have e1:((lates.zip tos).take n).map (·.1)=lates:=by
     rw [List.map_take,List.map_fst_zip (by omega),← hn.2,List.take_length]
    rw [e1] at this
    exact this
   have h2:(l.map (·.2)).map eraseO=tos.take n:=by
    have:=congrArg (List.map (·.2)) hl
    rw [List.map_map] at this
    have e1:((lates.zip tos).take n).map (·.2)=tos.take n:=by
     rw [← zipSnd (n:=n) (a:=lates) (b:=tos) (by omega) (by omega)]
    rw [e1] at this
    rw [List.map_map]
    exact this
   obtain ⟨g1,g2⟩:=h.erased (l.map (·.2)) (by rw [h2];simp;omega)
   have hz:(lates.zip (l.map (·.2)++tos.drop (l.map (·.2)).length)).take n=l:=by
    rw [← h1]
    exact zip_back l _ hll
   have:=TrC.drawF (id:=id) (n:=n) (lates:=lates) hp hm g1 (by rw [g2];exact hok) (eraseL_ok ht)
   rw [hz] at this
   exact this
def trF (P:Program) (fn:Func) (ks:List (List Nat)):Option TFn :=
 match fn.body with
 | some c=>match trC P fn.ntmps c ks,trR P fn.results.toList with
  | some (tc, []), some rs => if (fn.name == "runtime.NumGoroutine") = false then some { code := tc, res := rs } else none
  | _,_=>none
 | none=>none
theorem trF_ok {P:Program} {f:Nat} {fn:Func} {ks:List (List Nat)} {tf:TFn} (hf:P.funcs[f]?=some fn) (h:trF P fn ks=some tf):FnOk P f tf:=by
 unfold trF at h
 split at h
 ·rename_i c hc
  split at h
  ·rename_i tc rs h1 h2
   split at h
   ·rename_i hn
    cases h
    exact ⟨⟨fn,hf,hn,by rw [hc];rfl⟩,fn,c,hf,hc,trC_ok h1,trR_ok h2⟩
   ·cases h
  ·cases h
 ·cases h
theorem trE_ok {P:Program} {f:Nat} {fn:Func} {ks:List (List Nat)} {tf:TFn} (hf:P.funcs[f]?=some fn) (h:trF P fn ks=some ⟨eraseC tf.code,tf.res⟩):FnOk P f tf:=by
 obtain ⟨h1,fn',c,h2,h3,h4,h5⟩:=trF_ok hf h
 exact ⟨h1,fn',c,h2,h3,eraseC_ok h4,h5⟩
theorem X_bad (S:Sys) (e:Env) (H:Heap):X S .bad e H=none:=by rw [X_unfold];rfl
theorem X_skip (S:Sys) (e:Env) (H:Heap):X S .skip e H=some (.nrm,e,H):=by rw [X_unfold];rfl
theorem X_ret (S:Sys) (e:Env) (H:Heap):X S .ret e H=some (.ret,e,H):=by rw [X_unfold];rfl
theorem X_exit (S:Sys) (id:Nat) (e:Env) (H:Heap):X S (.exit id) e H=some (.ext id,e,H):=by rw [X_unfold];rfl
def thenSeq (r:Option Out) (k:Env→Heap→Option Out):Option Out :=
 match r with
 | some (.nrm,e,H)=>k e H
 | r=>r
def endBlock (id:Nat) (r:Option Out):Option Out :=
 match r with
 | some (.ext id',e,H)=>if id'=id then some (.nrm,e,H) else some (.ext id',e,H)
 | r=>r
def nrmOut (r:Option (Env×Heap)):Option Out :=
 match r with
 | some (e,H)=>some (.nrm,e,H)
 | none=>none
theorem X_seq (S:Sys) (a b:TC) (e:Env) (H:Heap):X S (.seq a b) e H=thenSeq (X S a e H) (X S b):=by
 rw [X_unfold,X_unfold S a]
 simp only [execF,thenSeq]
 split
 ·rename_i h;rw [h];simp only [X_unfold S b]
 ·rename_i h
  split
  ·rename_i e' H' h2;exact absurd h2 (h e' H')
  ·rfl
theorem X_ops (S:Sys) (l:List TO) (e:Env) (H:Heap):X S (.ops l) e H=nrmOut (runOps (X S) S l e H):=by
 rw [X_unfold]
 simp only [execF,nrmOut]
 rfl
def thenDraw (r:Option (Env×List (List Blk))) (k:Env→List (List Blk)→Option Out):Option Out :=
 match r with
 | some (e,Ns)=>k e Ns
 | none=>none
theorem X_draw (S:Sys) (hd:List (List Nat×TO)) (tl:List TO) (e:Env) (H:Heap):X S (.draw hd tl) e H=thenDraw (runDraw S H hd e []) fun e1 Ns=>nrmOut (runOps (X S) S tl e1 (H++Ns.flatten)):=by
 rw [X_unfold]
 simp only [execF,nrmOut,thenDraw]
 rfl
def thenF (r:Option (Env×Heap)) (k:Env→Heap→Option Out):Option Out :=
 match r with
 | some (e,H)=>k e H
 | none=>none
theorem X_drawF (S:Sys) (l:List (Option (List Nat)×TO)) (tl:List TO) (e:Env) (H:Heap):X S (.drawF l tl) e H=thenF (runF (X S) S l [] e H) fun e1 H1=>nrmOut (runOps (X S) S tl e1 H1):=by
 rw [X_unfold]
 simp only [execF,nrmOut,thenF]
 rfl
@[simp] theorem thenF_some (e:Env) (H:Heap) (k:Env→Heap→Option Out):thenF (some (e,H)) k=k e H:=rfl
@[simp] theorem thenF_none (k:Env→Heap→Option Out):thenF none k=none:=rfl
@[simp] theorem thenF_ite {c:Prop} [Decidable c] (x y:Option (Env×Heap)) (k:Env→Heap→Option Out):thenF (if c then x else y) k=if c then thenF x k else thenF y k:=by split <;> rfl
theorem runF_nil (rec:TC→Env→Heap→Option Out) (S:Sys) (fl:List (Nat×TOp)) (e:Env) (H:Heap):runF rec S [] fl e H=some (e,H):=rfl
theorem runF_fl (rec:TC→Env→Heap→Option Out) (S:Sys) (x:Nat) (o:TOp) (r:List (Option (List Nat)×TO)) (fl:List (Nat×TOp)) (e:Env) (H:Heap) :
  runF rec S ((none,⟨some x,none,o⟩)::r) fl e H=thenOps (opA S (keepEnv (topTmps o) e) H H.length o) fun v N=>thenNil N (runF rec S r ((x,o)::fl) (put e (some x) v) H):=rfl
theorem runF_sp (rec:TC→Env→Heap→Option Out) (S:Sys) (lt:List Nat) (d:Option Nat) (o:TOp) (r:List (Option (List Nat)×TO)) (fl:List (Nat×TOp)) (e:Env) (H:Heap) :
  runF rec S ((some lt,⟨d,none,o⟩)::r) fl e H=thenOps (runOp rec S (keepEnv (topTmps o) e) H o) fun v H'=>lateGo (lateF S fl (put e d v) H' lt) (runF rec S r fl (put e d v) H'):=rfl
@[simp] theorem thenNil_nil {β:Type} (k:Option β):thenNil [] k=k:=rfl
@[simp] theorem lateF_nil (S:Sys) (fl:List (Nat×TOp)) (e:Env) (H:Heap):lateF S fl e H []=True:=rfl
@[simp] theorem lateF_cons (S:Sys) (fl:List (Nat×TOp)) (e:Env) (H:Heap) (x:Nat) (l:List Nat):lateF S fl e H (x::l)=(lateOne S e H x (lk fl x)∧lateF S fl e H l):=rfl
@[simp] theorem lk_cons (y:Nat) (o:TOp) (l:List (Nat×TOp)) (x:Nat):lk ((y,o)::l) x=if x=y then some o else lk l x:=rfl
@[simp] theorem lateOne_some (S:Sys) (e:Env) (H:Heap) (x:Nat) (o:TOp):lateOne S e H x (some o)=(opA S (keepEnv (topTmps o) e) H H.length o=some (get e x,[])):=rfl
@[simp] theorem lateGo_true {β:Type} (k:Option β):lateGo True k=k:=by unfold lateGo;rw [if_pos trivial]
@[simp] theorem thenDraw_some (e:Env) (Ns:List (List Blk)) (k:Env→List (List Blk)→Option Out):thenDraw (some (e,Ns)) k=k e Ns:=rfl
@[simp] theorem thenDraw_none (k:Env→List (List Blk)→Option Out):thenDraw none k=none:=rfl
@[simp] theorem thenDraw_ite {c:Prop} [Decidable c] (x y:Option (Env×List (List Blk))) (k:Env→List (List Blk)→Option Out):thenDraw (if c then x else y) k=if c then thenDraw x k else thenDraw y k:=by split <;> rfl
theorem runDraw_nil (S:Sys) (H:Heap) (e:Env) (acc:List (List Blk)):runDraw S H [] e acc=some (e,acc):=rfl
theorem X_turn (S:Sys) (k:List Nat) (a b:TC) (e:Env) (H:Heap):X S (.turn k a b) e H=thenSeq (X S a (keepEnv k e) H) (X S b):=by
 rw [X_unfold,X_unfold S a]
 simp only [execF,← X_unfold,thenSeq]
 rfl
theorem X_cond (S:Sys) (c:Opd) (a b:TC) (e:Env) (H:Heap):X S (.cond c a b) e H=match ev e c with | .bool t=>if t then X S a e H else X S b e H | _=>none:=by
 rw [X_unfold]
 simp only [execF,← X_unfold]
 rfl
theorem X_block (S:Sys) (id:Nat) (a:TC) (e:Env) (H:Heap):X S (.block id a) e H=endBlock id (X S a e H):=by
 rw [X_unfold,X_unfold S a]
 simp only [execF,endBlock]
 rfl
theorem X_loop (S:Sys) (k:List Nat) (a:TC) (e:Env) (H:Heap):X S (.loop k a) e H=thenSeq (X S a (keepEnv k e) H) (X S (.loop k a)):=by
 rw [X_unfold,X_unfold S a]
 simp only [execF,thenSeq]
 split
 ·rename_i h;rw [h]
 ·rename_i h
  split
  ·rename_i e' H' h2;exact absurd h2 (h e' H')
  ·rfl
@[simp] theorem thenSeq_nrm (e:Env) (H:Heap) (k:Env→Heap→Option Out):thenSeq (some (.nrm,e,H)) k=k e H:=rfl
@[simp] theorem thenSeq_ret (e:Env) (H:Heap) (k:Env→Heap→Option Out):thenSeq (some (.ret,e,H)) k=some (.ret,e,H):=rfl
@[simp] theorem thenSeq_ext (id:Nat) (e:Env) (H:Heap) (k:Env→Heap→Option Out):thenSeq (some (.ext id,e,H)) k=some (.ext id,e,H):=rfl
@[simp] theorem thenSeq_none (k:Env→Heap→Option Out):thenSeq none k=none:=rfl
@[simp] theorem thenSeq_ite {c:Prop} [Decidable c] (x y:Option Out) (k:Env→Heap→Option Out):thenSeq (if c then x else y) k=if c then thenSeq x k else thenSeq y k:=by split <;> rfl
@[simp] theorem endBlock_nrm (id:Nat) (e:Env) (H:Heap):endBlock id (some (.nrm,e,H))=some (.nrm,e,H):=rfl
@[simp] theorem endBlock_ret (id:Nat) (e:Env) (H:Heap):endBlock id (some (.ret,e,H))=some (.ret,e,H):=rfl
@[simp] theorem endBlock_ext (id id':Nat) (e:Env) (H:Heap):endBlock id (some (.ext id',e,H))=if id'=id then some (.nrm,e,H) else some (.ext id',e,H):=rfl
@[simp] theorem endBlock_none (id:Nat):endBlock id none=none:=rfl
@[simp] theorem endBlock_ite {c:Prop} [Decidable c] (id:Nat) (x y:Option Out):endBlock id (if c then x else y)=if c then endBlock id x else endBlock id y:=by split <;> rfl
@[simp] theorem nrmOut_some (e:Env) (H:Heap):nrmOut (some (e,H))=some (.nrm,e,H):=rfl
@[simp] theorem nrmOut_none:nrmOut none=none:=rfl
@[simp] theorem nrmOut_ite {c:Prop} [Decidable c] (x y:Option (Env×Heap)):nrmOut (if c then x else y)=if c then nrmOut x else nrmOut y:=by split <;> rfl
theorem runOps_nil (rec:TC→Env→Heap→Option Out) (S:Sys) (e:Env) (H:Heap):runOps rec S [] e H=some (e,H):=rfl
theorem runOps_cons (rec:TC→Env→Heap→Option Out) (S:Sys) (d:Option Nat) (o:TOp) (r:List TO) (e:Env) (H:Heap) :
  runOps rec S (⟨d,none,o⟩::r) e H=thenOps (runOp rec S e H o) fun v H'=>runOps rec S r (put e d v) H':=rfl
@[simp] theorem thenOps_some {α β:Type} (v:TV) (H:α) (k:TV→α→Option β):thenOps (some (v,H)) k=k v H:=rfl
@[simp] theorem thenOps_none {α β:Type} (k:TV→α→Option β):thenOps none k=none:=rfl
@[simp] theorem thenOps_ite {α β:Type} {c:Prop} [Decidable c] (x y:Option (TV×α)) (k:TV→α→Option β):thenOps (if c then x else y) k=if c then thenOps x k else thenOps y k:=by split <;> rfl
def finish (rs:List TRes) (r:Option Out):Option (TV×Heap) :=
 match r with
 | some (.ext _,_,_)=>none
 | some (_,e,H')=>(results e H' rs).map fun v=>(v,H')
 | none=>none
theorem callFn_eq (rec:TC→Env→Heap→Option Out) (tf:TFn) (vs:List TV) (H:Heap):callFn rec tf vs H=finish tf.res (rec tf.code (argEnv 0 vs) H):=rfl
@[simp] theorem finish_ret (rs:List TRes) (e:Env) (H:Heap):finish rs (some (.ret,e,H))=(results e H rs).map fun v=>(v,H):=rfl
@[simp] theorem finish_nrm (rs:List TRes) (e:Env) (H:Heap):finish rs (some (.nrm,e,H))=(results e H rs).map fun v=>(v,H):=rfl
@[simp] theorem finish_none (rs:List TRes):finish rs none=none:=rfl
@[simp] theorem finish_ite {c:Prop} [Decidable c] (rs:List TRes) (x y:Option Out):finish rs (if c then x else y)=if c then finish rs x else finish rs y:=by split <;> rfl
end Go.Proofs.TM
