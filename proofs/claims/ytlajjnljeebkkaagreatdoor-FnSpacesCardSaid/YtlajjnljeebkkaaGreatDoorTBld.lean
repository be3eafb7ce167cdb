import Derived.Test.YtlajjnljeebkkaaGreatDoorTFun
namespace Go.Proofs.TM
open Go
def owb (id n T:Nat):TV:=if n=0 then .nb else .hb id n T
def bdo (id n T:Nat):TV:=if n=0 then .nilp else .bd id T
@[simp] theorem owb_zero (id T:Nat):owb id 0 T=.nb:=rfl
theorem owb_succ (id n T:Nat):owb id (n+1) T=.hb id (n+1) T:=by simp [owb]
section
variable (id n T d:Nat) (H:Heap)
@[simp] theorem plain_owb:plain (owb id n T)=true:=by cases n <;> simp [owb,plain]
@[simp] theorem cellsOf_owb:cellsOf (owb id n T)=some [owb id n T]:=by cases n <;> simp [owb,cellsOf]
@[simp] theorem lenV_owb:lenV false (owb id n T)=some (.int .i64 (n:Int)):=by cases n <;> simp [owb]
@[simp] theorem shift_owb (k:Nat):shift k d (owb id n T)=owb (id+k) n T:=by cases n <;> cases d <;> simp [owb,shift]
@[simp] theorem coC_owb:coC (owb id n T)=owb id n T:=by cases n <;> simp [owb,coC]
def renOB (r:Option Nat) (n T:Nat):TV:=match r with | some id=>owb id n T | none=>if n=0 then .nb else .undef
@[simp] theorem renOB_some:renOB (some id) n T=owb id n T:=rfl
@[simp] theorem ren_owb (ρ:Nat→Option Nat):ren ρ d (owb id n T)=renOB (ρ id) n T:=by
 cases n <;> cases h:ρ id <;> cases d <;> simp [owb,ren,renOB,h]
@[simp] theorem sdataV_owb:sdataV (owb id n T)=some (bdo id n T):=by cases n <;> simp [owb,bdo,sdataV]
def renBS (r:Option Nat) (T:Nat):TV:=match r with | some id=>.bself id T | none=>.undef
@[simp] theorem renBS_some:renBS (some id) T=.bself id T:=rfl
@[simp] theorem ren_bself (ρ:Nat→Option Nat):ren ρ d (.bself id T)=renBS (ρ id) T:=by cases h:ρ id <;> cases d <;> simp [ren,renBS,h]
@[simp] theorem shift_bself (k:Nat):shift k d (.bself id T)=.bself (id+k) T:=by cases d <;> rfl
@[simp] theorem plain_bself:plain (.bself id T)=true:=rfl
end
section
variable (H:Heap) (id:Nat) (l:List Bt)
theorem appR_owb {el bytes:Nat} (b:List Bt) (hb:H[id]?=some (ob 1 l)):appR H el 1 bytes (owb id l.length el) (some (rows b))=(appL bytes l b).map fun r=>(owb H.length r.length el,H.set id .dead++[ob 1 r]):=by
 have hid:id < H.length:=(List.getElem?_eq_some_iff.1 hb).1
 have hall:=rows_ok_all (sz:=1) b rfl
 cases l with
 | nil =>
  have hd:H.set id .dead=H:=by
   apply List.ext_getElem?
   intro k
   rw [List.getElem?_set]
   split
   ·rename_i hk;subst hk;rw [hb];simp [ob,hid]
   ·rfl
  simp only [List.length_nil,owb_zero,appR,appendBV,hall,and_self,if_true,rows_length,appL,Nat.zero_add,List.nil_append,hd]
  cases b with
  | nil=>simp [owb,ob]
  | cons y b =>
   rw [if_neg (by simp)]
   split <;> simp [owb,ob]
 | cons x l =>
  simp only [List.length_cons,owb_succ,appR,appendBV,hb,ob,hall,rows_length,appL,true_and,and_self,if_true]
  split
  ·simp [owb,ob,rows];omega
  ·rfl
noncomputable def appTB (H:Heap) (el bytes id n:Nat) (b:Option Blk) (x:List Bt):Option (TV×Heap):=open Classical in if h:∃ l:List Bt,b=some (ob 1 l)∧n=l.length then (appL bytes h.choose x).map fun r=>(owb H.length r.length el,H.set id .dead++[ob 1 r]) else appR H el 1 bytes (owb id n el) (some (rows x))
@[simp] theorem appR_owbr {el bytes n:Nat} (b:List Bt):appR H el 1 bytes (owb id n el) (some (rows b))=appTB H el bytes id n H[id]? b:=by
 unfold appTB
 split
 ·rename_i hx
  have h1:=hx.choose_spec
  revert h1
  generalize hx.choose=l'
  rintro ⟨h1,rfl⟩
  exact appR_owb H id _ b h1
 ·rfl
@[simp] theorem appTB_ob {n:Nat} (el bytes:Nat) (b:List Bt) (h:n=l.length):appTB H el bytes id n (some (ob 1 l)) b=(appL bytes l b).map fun r=>(owb H.length r.length el,H.set id .dead++[ob 1 r]):=by
 unfold appTB
 have hx:∃ l':List Bt,some (ob 1 l)=some (ob 1 l')∧n=l'.length:=⟨l,rfl,h⟩
 rw [dif_pos hx]
 have:=hx.choose_spec.1
 rw [← ob_inj (Option.some.inj this)]
def nilB:List Bt:=[]
theorem sA_allocB' (S:Sys) (e:Env) (b T Te:Nat):opA S e H b (.allocB T)=some (.ptr b 0 0,[.live 2 [[.bself b T,owb (b+1) nilB.length Te]],ob 1 nilB]):=rfl
theorem sR_allocB' (rec:TC→Env→Heap→Option Out) (S:Sys) (e:Env) (T Te:Nat):runOp rec S e H (.allocB T)=some (.ptr H.length 0 0,H++[.live 2 [[.bself H.length T,owb (H.length+1) nilB.length Te]],ob 1 nilB]):=rfl
def strB (l:List Bt):Option Str:=if l.length≤maxRow then some (l.map Bt.v) else none
theorem ustrM_ob {T:Nat} (hb:H[id]?=some (ob 1 l)):ustrM H T (bdo id l.length T) (.int .i64 (l.length:Int))=(strB l).map fun s=>(.str s,H.set id .dead):=by
 cases l with
 | nil =>
  have hd:H.set id .dead=H:=by
   apply List.ext_getElem?
   intro k
   rw [List.getElem?_set]
   split
   ·rename_i hk;subst hk;rw [hb];have hid:=(List.getElem?_eq_some_iff.1 hb).1;simp [ob,hid]
   ·rfl
  simp [bdo,ustrM,strB,maxRow,hd]
 | cons x l =>
  have h2:=strV_bt (x::l)
  simp only [strV] at h2
  have hd:bdo id (x::l).length T=.bd id T:=by simp [bdo]
  have hlen:(rows (x::l)).length=(x::l).length:=by simp
  rw [hd]
  show (match H[id]? with
   | some (.live 1 l')=>if T=T∧((x::l).length:Int)=(l'.length:Int)∧0 < l'.length∧l'.length≤maxRow then (allSome (l'.map toByte)).map fun s=>(TV.str s,H.set id .dead) else none
   | _=>none)=_
  rw [hb]
  show (if T=T∧((x::l).length:Int)=((rows (x::l)).length:Int)∧0 < (rows (x::l)).length∧(rows (x::l)).length≤maxRow then (allSome ((rows (x::l)).map toByte)).map fun s=>(TV.str s,H.set id .dead) else none)=_
  rw [hlen,strB]
  by_cases hm:(x::l).length≤maxRow
  ·rw [if_pos ⟨rfl,rfl,by simp,hm⟩,if_pos hm]
   simp only [Option.map_eq_some_iff] at h2
   obtain ⟨s,h3,h4⟩:=h2
   cases h4
   rw [h3,Option.map_some]
  ·rw [if_neg (fun h=>hm h.2.2.2),if_neg hm,Option.map_none]
noncomputable def ustrT (H:Heap) (T id n:Nat) (b:Option Blk):Option (TV×Heap):=open Classical in if h:∃ l:List Bt,b=some (ob 1 l)∧n=l.length then (strB h.choose).map fun s=>(.str s,H.set id .dead) else ustrM H T (bdo id n T) (.int .i64 (n:Int))
@[simp] theorem ustrM_bdo {T n:Nat}:ustrM H T (bdo id n T) (.int .i64 (n:Int))=ustrT H T id n H[id]?:=by
 unfold ustrT
 split
 ·rename_i hx
  have h1:=hx.choose_spec
  revert h1
  generalize hx.choose=l'
  rintro ⟨h1,rfl⟩
  exact ustrM_ob H id _ h1
 ·rfl
@[simp] theorem ustrT_ob {T n:Nat} (h:n=l.length):ustrT H T id n (some (ob 1 l))=(strB l).map fun s=>(.str s,H.set id .dead):=by
 unfold ustrT
 have hx:∃ l':List Bt,some (ob 1 l)=some (ob 1 l')∧n=l'.length:=⟨l,rfl,h⟩
 rw [dif_pos hx]
 have:=hx.choose_spec.1
 rw [← ob_inj (Option.some.inj this)]
end
end Go.Proofs.TM
