import Derived.Test.YtlajjnljeebkkaaGreatDoorTBld
namespace Go.Proofs.TM
open Go
theorem VR.vs_nil {w:World} {I:Nat→Nat→Prop} {μ:Mu} {v:Value} (h:VR w I μ (.vs []) v):VR w I μ .nils v∨VR w I μ .ne v:=by
 cases h with
 | vs _ l a cap sz b o val hcap ha hsz hc hv =>
  cases a with
  | none=>rw [hcap.2 rfl];exact .inl (.nils _)
  | some a=>exact .inr (.ne _ _ _)
theorem VR.nils_es {w:World} {I:Nat→Nat→Prop} {μ:Mu} {v:Value} (h:VR w I μ .nils v):VR w I μ .es v:=by
 cases h
 exact .es _ _
theorem VRL.get1 {w:World} {I:Nat→Nat→Prop} {μ:Mu} {t:TV} {vs:List Value} (h:VRL w I μ [t] vs):∃ v,vs=[v]∧VR w I μ t v:=by
 have hl:=h.1
 cases vs with
 | nil=>simp at hl
 | cons v vs=>cases vs with
  | nil=>exact ⟨v,rfl,h.2 0 t v rfl rfl⟩
  | cons u us=>simp at hl
theorem VRL.of1 {w:World} {I:Nat→Nat→Prop} {μ:Mu} {t:TV} {v:Value} (h:VR w I μ t v):VRL w I μ [t] [v]:=by
 refine ⟨rfl,fun k x u h1 h2=>?_⟩
 cases k with
 | zero=>simp at h1 h2;subst h1;subst h2;exact h
 | succ k=>simp at h1
theorem RuleOk.alt {P:Program} {S:Sys} {f:Nat} {tf:TFn} {F:Rule} (hS:SysOk P S) (hfn:FnOk P f tf) (h:∀ ts r N,F ts=some (r,N)→∀ (w:World) (I:Nat→Nat→Prop) (vs:Array Value),VRL w I Mu.none ts vs.toList →
   ∃ (ts':List TV) (r':TV) (N':List Blk),VRL w I Mu.none ts' vs.toList∧callFn (X S) tf ts' []=some (r',N') ∧
   (∀ id,look N id=look N' id)∧N'.length≤N.length∧∀ (w:World) (I:Nat→Nat→Prop) (μ:Mu) (v:Value),VR w I μ r' v→VR w I μ r v):RuleOk P f F:=by
 refine ⟨hfn.1,fun ts r N hF w I vs hI hvs=>?_⟩
 obtain ⟨ts',r',N',h1,h2,h3,h4,h5⟩:=h ts r N hF w I vs hvs
 refine (calls_of_X hS hfn (pinsOk_zero _) h2 (HR.empty hI) (fun _ _=>rfl) h1).mono fun en w' ⟨vv,I',μ',he,hs,hr,hdom,hv⟩=>?_
 have hF0:∀ b k,¬ Foot Mu.none (look []) b k:=fun b k ⟨id,sz,l,loc,h1,_⟩=>by cases h1
 have hl:look N=look N':=funext h3
 rw [hl]
 refine ⟨vv,I',μ',he,hs.ws.ext hF0,hs.up,fun b k h=>(hs.new b k h).imp (fun h=>h.resolve_right (hF0 b k)) (fun h=>h),hr,h5 _ _ _ _ hv,fun b k hf=>?_,fun id loc hm=>?_⟩
 ·rcases hs.foot b k hf with h1 | h1
  ·exact absurd h1 (hF0 b k)
  ·exact h1
 ·rcases Nat.lt_or_ge id N'.length with h1 | h1
  ·exact Nat.lt_of_lt_of_le h1 h4
  ·rw [hdom id h1] at hm;cases hm
@[simp] theorem lateGo_if {β:Type} (p:Prop) [Decidable p] (k:Option β):lateGo p k=if p then k else none:=by
 unfold lateGo
 by_cases h:p
 ·rw [if_pos h,if_pos h]
 ·rw [if_neg h,if_neg h]
@[simp] theorem late_int (o:Option Int) (k:IntKind) (y:Int):((o.bind fun x=>some (TV.int k x,([]:List Blk)))=some (TV.int k y,[])) ↔ o=some y:=by
 cases o with
 | none=>simp
 | some x=>simp
@[simp] theorem late_str (o:Option Str) (y:Str):((o.bind fun x=>some (TV.str x,([]:List Blk)))=some (TV.str y,[])) ↔ o=some y:=by
 cases o with
 | none=>simp
 | some x=>simp
def cloneTF (el:Nat) (zs:List TV) (sz bytes:Nat):TFn:=⟨.seq (.ops [⟨some 2,none,.mv (.c .nils)⟩]) (.seq (.seq (.ops [⟨some 3,none,.mv (.t 0)⟩,⟨some 4,none,.bin .nil .eql (.t 3) (.c .nils)⟩]) (.cond (.t 4) (.seq (.ops [⟨some 2,none,.mv (.c .nils)⟩]) .ret) .skip))
 (.seq (.ops [⟨some 5,none,.bslice zs 0 []⟩,⟨some 6,none,.mv (.t 0)⟩,⟨some 7,none,.append el sz bytes (.t 5) (.t 6)⟩,⟨some 2,none,.mv (.t 7)⟩]) .ret)),[.t 2]⟩
theorem clone_ok {P:Program} {f el:Nat} {α:Type} [Cel α] {zs:List TV} {sz bytes:Nat} (h:Cel.sz α=sz) (hfn:FnOk P f (cloneTF el zs sz bytes)) :
  RuleOk P f (RlO (fun (l:List α)=>[TV.vs (rows l)]) (fun l=>appL bytes [] l) (fun r=>(ow 0 r.length,[ob sz r]))):=by
 refine RuleOk.alt (S:=Sys.on [] []) (SysOk.on trivial trivial) hfn fun ts r N hF w I vs hvs=>?_
 unfold RlO at hF
 split at hF
 ·rename_i hx
  have h1:=hx.choose_spec
  revert h1 hF
  generalize hx.choose=l
  rintro hF rfl
  cases l with
  | nil =>
   have hr:r=.es∧N=[.dead]:=by
    simp [appL,maxRow] at hF
    exact ⟨hF.1.symm,hF.2.symm⟩
   obtain ⟨rfl,rfl⟩:=hr
   obtain ⟨v,hv,h1⟩:=hvs.get1
   rw [hv]
   rcases VR.vs_nil h1 with h | h
   ·refine ⟨[.nils],.nils,[],.of1 h,?_,fun id=>by cases id <;> rfl,Nat.zero_le _,fun _ _ _ _ h=>h.nils_es⟩
    rw [callFn_eq]
    simp -implicitDefEqProofs [cloneTF,cmpNil]
   ·refine ⟨[.ne],.es,[.dead],.of1 h,?_,fun id=>by cases id <;> rfl,Nat.le_refl _,fun _ _ _ _ h=>h⟩
    rw [callFn_eq]
    simp -implicitDefEqProofs [cloneTF,cmpNil,elems,appR]
  | cons x l =>
   refine ⟨_,r,N,hvs,?_,fun id=>rfl,Nat.le_refl _,fun _ _ _ _ h=>h⟩
   rw [callFn_eq,← hF]
   have hn:cmpNil (.vs (rows (x::l))) .nils=some false:=rfl
   have he:elems [] (.vs (rows (x::l)))=some (rows (x::l)):=rfl
   generalize x::l=m at hn he
   simp -implicitDefEqProofs [cloneTF,hn,h,map_to_bind]
 ·cases hF
theorem some_elim {σ τ β:Type} (a:σ→β) (b:τ→β) (r:σ ⊕ τ):some (Sum.elim a b r)=Sum.elim (fun x=>some (a x)) (fun x=>some (b x)) r:=by cases r <;> rfl
attribute [simp ↓] thenOps_some thenOps_none thenSeq_none thenDraw_none thenF_some thenF_none thenF_bind thenF_ite thenOps_bind thenOps_map thenOps_ite thenSeq_nrm thenSeq_bind thenSeq_map thenSeq_ite thenSeq_ret thenSeq_ext thenSeq_elim thenSeq_elim' guardOn_true guardOn_false guardOn_tup guardOn_bool thenDraw_some thenDraw_bind thenDraw_ite thenKeep_some
end Go.Proofs.TM
