import Derived.Test.YtlajjnljeebkkaaGreatDoorTDrawF
namespace Go.Proofs.TM
open Go
def LoopAt (P:Program) (c:Code) (Q:Exit→Act→World→Prop) (a:Act) (w:World):Prop :=
 ∀ b k cs,∃ e a' w',Q e a' w'∧Arrives P (lone (b.at a (.code c::.inLoop c::k)) cs w) b k cs e a' w'
theorem LoopAt.wp {P:Program} {c:Code} {Q:Exit→Act→World→Prop} {a:Act} {w:World} (h:LoopAt P c Q a w):(Code.loop c).wp P Q a w:=by
 intro b k cs
 obtain ⟨e,a',w',hq,harr⟩:=h b k cs
 exact ⟨e,a',w',hq,.of_steps (.one step_loop) harr⟩
theorem LoopAt.step {P:Program} {c:Code} {Q:Exit→Act→World→Prop} {a:Act} {w:World} (h:c.wp P (Exit.then (LoopAt P c Q) Q) a w):LoopAt P c Q a w:=by
 intro b k cs
 obtain ⟨e,a₁,w₁,hq,harr⟩:=h b (.inLoop c::k) cs
 cases e with
 | normal =>
  obtain ⟨e₂,a₂,w₂,hq₂,harr₂⟩:=hq b k cs
  exact ⟨e₂,a₂,w₂,hq₂,.of_steps (Steps.trans harr (.one step_inLoop)) harr₂⟩
 | exit id=>exact ⟨_,a₁,w₁,hq,.pass (x:=.inLoop c) rfl (fun _ _=>.inl (by simp)) harr⟩
 | goto l=>exact ⟨_,a₁,w₁,hq,.pass (x:=.inLoop c) rfl (fun _ _=>.inl (by simp)) harr⟩
 | ret=>exact ⟨_,a₁,w₁,hq,.pass (x:=.inLoop c) rfl (fun _ _=>.inl (by simp)) harr⟩
 | panic ch=>exact ⟨_,a₁,w₁,hq,.pass (x:=.inLoop c) rfl (fun _ _=>.inl (by simp)) harr⟩
 | outgrown=>exact ⟨_,a₁,w₁,hq,.pass (x:=.inLoop c) rfl (fun _ _=>.inl (by simp)) harr⟩
theorem LoopAt.rounds {P:Program} {c:Code} {Q:Exit→Act→World→Prop}:∀ (n:Nat) (a:Act) (w:World),Code.rounds P c Q n a w→LoopAt P c Q a w
 | 0,_,_,h=>h.elim
 | n+1,a,w,h=>.step (Code.wp_mono (fun e a w q=>by
   cases e <;> first | exact LoopAt.rounds n _ _ q | exact q) (rounds_succ ▸ h))
def Wp (P:Program) (c:Code) (Q:Exit→Act→World→Prop) (a:Act) (w:World):Prop:=c.wp P Q a w∧∀ b,c=.loop b→LoopAt P b Q a w
theorem Wp.of {P:Program} {c:Code} {Q:Exit→Act→World→Prop} {a:Act} {w:World} (h:c.wp P Q a w) (hc:∀ b,c ≠ .loop b):Wp P c Q a w:=⟨h,fun b hb=>absurd hb (hc b)⟩
theorem Wp.at {P:Program} {c:Code} {Q:Exit→Act→World→Prop} {a:Act} {w:World} (h:LoopAt P c Q a w):Wp P (.loop c) Q a w:=⟨h.wp,fun b hb=>by cases hb;exact h⟩
section
variable {P:Program} {S:Sys}
theorem execF_ok {n:Nat} (hS:SysOk P S) (hrec:RecOk P S (exec S n)) (hloop:∀ (nt m:Nat) (c:Code) (keep:List Nat) (b:TC),TrC P nt c b→pinsOk m b=true→∀ (e:Env) (H:Heap) (x:TX) (e':Env) (H':Heap),exec S n (.loop keep b) e H=some (x,e',H') →
   ∀ (w:World) (I:Nat→Nat→Prop) (μ:Mu) (a:Act),Inv nt w I μ H e a→∀ Q:Exit→Act→World→Prop,(∀ ex a' w',Post nt m w I μ H x e' H' ex a' w'→Q ex a' w')→Code.rounds P c Q n a w) {nt m:Nat} :
  ∀ {c:Code} {tc:TC},TrC P nt c tc→pinsOk m tc=true→∀ (e:Env) (H:Heap) (x:TX) (e':Env) (H':Heap),execF (exec S n) S tc e H=some (x,e',H')→∀ (w:World) (I:Nat→Nat→Prop) (μ:Mu) (a:Act),Inv nt w I μ H e a →
  ∀ Q:Exit→Act→World→Prop,(∀ ex a' w',Post nt m w I μ H x e' H' ex a' w'→Q ex a' w')→Wp P c Q a w:=by
 intro c tc ht
 induction ht with
 | bad =>
  intro hpin e H x e' H' h w I μ a hi Q hQ
  simp only [execF] at h
  cases h
 | skip =>
  intro hpin e H x e' H' h w I μ a hi Q hQ
  simp only [execF,Option.some.injEq,Prod.mk.injEq] at h
  obtain ⟨rfl,rfl,rfl⟩:=h
  refine .of ?_ (by intro b h;cases h)
  exact wp_skip (hQ _ _ _ ⟨trivial,I,μ,StpM.refl _ _ _ _ _,hi⟩)
 | exit =>
  intro hpin e H x e' H' h w I μ a hi Q hQ
  simp only [execF,Option.some.injEq,Prod.mk.injEq] at h
  obtain ⟨rfl,rfl,rfl⟩:=h
  refine .of ?_ (by intro b h;cases h)
  exact wp_exit (hQ _ _ _ ⟨rfl,I,μ,StpM.refl _ _ _ _ _,hi⟩)
 | ret =>
  intro hpin e H x e' H' h w I μ a hi Q hQ
  simp only [execF,Option.some.injEq,Prod.mk.injEq] at h
  obtain ⟨rfl,rfl,rfl⟩:=h
  refine .of ?_ (by intro b h;cases h)
  exact wp_ret (hQ _ _ _ ⟨trivial,I,μ,StpM.refl _ _ _ _ _,hi⟩)
 | ops hts =>
  intro hpin e H x e' H' h w I μ a hi Q hQ
  simp only [execF] at h
  split at h
  ·rename_i e1 H1 hrun
   simp only [Option.some.injEq,Prod.mk.injEq] at h
   obtain ⟨rfl,rfl,rfl⟩:=h
   refine .of ?_ (by intro b h;cases h)
   exact wp_region_list (runOps_ok hS hrec hts hrun hi fun a' w' ⟨I',μ',g1,g2⟩=>hQ _ _ _ ⟨trivial,I',μ',g1.m m,g2⟩)
  ·cases h
 | @draw id ops0 ops tos n ancs tl hp hm hts hok htl =>
  intro hpin e H x e' H' h w I μ a hi Q hQ
  simp only [execF] at h
  split at h
  ·rename_i e1 Ns hrun
   split at h
   ·rename_i e2 H2 hrun2
    simp only [Option.some.injEq,Prod.mk.injEq] at h
    obtain ⟨rfl,rfl,rfl⟩:=h
    refine .of ?_ (by intro b h;cases h)
    exact draw_ok hS hrec hp hm hts hok htl hrun hrun2 hi fun a' w' ⟨I',μ',g1,g2⟩=>hQ _ _ _ ⟨trivial,I',μ',g1.m m,g2⟩
   ·cases h
  ·cases h
 | @drawF id ops0 ops tos n lates ancs tl hp hm hts hok htl =>
  intro hpin e H x e' H' h w I μ a hi Q hQ
  simp only [execF] at h
  split at h
  ·rename_i e1 H1 hrun
   split at h
   ·rename_i e2 H2 hrun2
    simp only [Option.some.injEq,Prod.mk.injEq] at h
    obtain ⟨rfl,rfl,rfl⟩:=h
    refine .of ?_ (by intro b h;cases h)
    exact drawF_ok hS hrec hp hm hts hok htl hrun hrun2 hi fun a' w' ⟨I',μ',g1,g2⟩=>hQ _ _ _ ⟨trivial,I',μ',g1.m m,g2⟩
   ·cases h
  ·cases h
 | @seq ca cb ta tb ha hb iha ihb =>
  intro hpin e H x e' H' h w I μ a hi Q hQ
  simp only [execF] at h
  cases hra:execF (exec S n) S ta e H with
  | none=>rw [hra] at h;cases h
  | some p =>
   obtain ⟨x1,e1,H1⟩:=p
   rw [hra] at h
   simp only [pinsOk,Bool.and_eq_true] at hpin
   refine .of (wp_seq (iha hpin.1 e H x1 e1 H1 hra w I μ a hi _ fun ex a1 w1 ⟨hex,I1,μ1,hs,hi1⟩=>?_).1) (by intro b h;cases h)
   cases x1 with
   | nrm =>
    cases ex <;> try exact hex.elim
    exact (ihb hpin.2 e1 H1 x e' H' h w1 I1 μ1 a1 hi1 Q fun ex a' w' ⟨he,I',μ',g1,g2⟩=>hQ ex a' w' ⟨he,I',μ',hs.trans g1,g2⟩).1
   | ext id =>
    simp only [Option.some.injEq,Prod.mk.injEq] at h
    obtain ⟨rfl,rfl,rfl⟩:=h
    cases ex <;> try exact hex.elim
    exact hQ _ _ _ ⟨hex,I1,μ1,hs,hi1⟩
   | ret =>
    simp only [Option.some.injEq,Prod.mk.injEq] at h
    obtain ⟨rfl,rfl,rfl⟩:=h
    cases ex <;> try exact hex.elim
    exact hQ _ _ _ ⟨hex,I1,μ1,hs,hi1⟩
 | @cond cc ca cb tc' ta tb hc ha hb iha ihb =>
  intro hpin e H x e' H' h w I μ a hi Q hQ
  simp only [execF] at h
  have hv:=hc.ok hi.env
  split at h
  ·rename_i t hct
   rw [hct] at hv
   generalize hcv:a.eval cc=cv at hv
   cases hv
   refine .of (wp_cond hcv ?_) (by intro b h;cases h)
   simp only [pinsOk,Bool.and_eq_true] at hpin
   cases t
   ·exact (ihb hpin.2 e H x e' H' h w I μ a hi Q hQ).1
   ·exact (iha hpin.1 e H x e' H' h w I μ a hi Q hQ).1
  ·cases h
 | @block id ca ta ha iha =>
  intro hpin e H x e' H' h w I μ a hi Q hQ
  simp only [execF] at h
  cases hra:execF (exec S n) S ta e H with
  | none=>rw [hra] at h;cases h
  | some p =>
   obtain ⟨x1,e1,H1⟩:=p
   rw [hra] at h
   refine .of (wp_block (iha hpin e H x1 e1 H1 hra w I μ a hi _ fun ex a1 w1 ⟨hex,I1,μ1,hs,hi1⟩=>?_).1) (by intro b h;cases h)
   cases x1 with
   | nrm =>
    simp only [Option.some.injEq,Prod.mk.injEq] at h
    obtain ⟨rfl,rfl,rfl⟩:=h
    cases ex <;> try exact hex.elim
    exact hQ _ _ _ ⟨trivial,I1,μ1,hs,hi1⟩
   | ext id' =>
    cases ex with
    | exit id2 =>
    have hid:id'=id2:=hex
    subst hid
    simp only at h
    simp only [Exit.inBlock]
    split at h
    ·rename_i hid
     simp only [Option.some.injEq,Prod.mk.injEq] at h
     obtain ⟨rfl,rfl,rfl⟩:=h
     rw [if_pos hid]
     exact hQ _ _ _ ⟨trivial,I1,μ1,hs,hi1⟩
    ·rename_i hid
     simp only [Option.some.injEq,Prod.mk.injEq] at h
     obtain ⟨rfl,rfl,rfl⟩:=h
     rw [if_neg hid]
     exact hQ _ _ _ ⟨rfl,I1,μ1,hs,hi1⟩
    | _=>exact hex.elim
   | ret =>
    simp only [Option.some.injEq,Prod.mk.injEq] at h
    obtain ⟨rfl,rfl,rfl⟩:=h
    cases ex <;> try exact hex.elim
    exact hQ _ _ _ ⟨hex,I1,μ1,hs,hi1⟩
 | @loop ca keep ta ha iha =>
  intro hpin e H x e' H' h w I μ a hi Q hQ
  refine .at (LoopAt.rounds (n+1) _ _ ?_)
  simp only [execF] at h
  have hi0:Inv nt w I μ H (keepEnv keep e) a:=⟨hi.hr,hi.dom,hi.env.keep keep,hi.size,hi.defers⟩
  cases hra:execF (exec S n) S ta (keepEnv keep e) H with
  | none=>rw [hra] at h;cases h
  | some p =>
   obtain ⟨x1,e1,H1⟩:=p
   rw [hra] at h
   rw [rounds_succ]
   refine (iha hpin _ H x1 e1 H1 hra w I μ a hi0 _ fun ex a1 w1 ⟨hex,I1,μ1,hs,hi1⟩=>?_).1
   cases x1 with
   | nrm =>
    cases ex <;> try exact hex.elim
    exact hloop nt m ca keep ta ha hpin e1 H1 x e' H' h w1 I1 μ1 a1 hi1 Q fun ex a' w' ⟨he,I',μ',g1,g2⟩=>hQ ex a' w' ⟨he,I',μ',hs.trans g1,g2⟩
   | ext id =>
    simp only [Option.some.injEq,Prod.mk.injEq] at h
    obtain ⟨rfl,rfl,rfl⟩:=h
    cases ex <;> try exact hex.elim
    exact hQ _ _ _ ⟨hex,I1,μ1,hs,hi1⟩
   | ret =>
    simp only [Option.some.injEq,Prod.mk.injEq] at h
    obtain ⟨rfl,rfl,rfl⟩:=h
    cases ex <;> try exact hex.elim
    exact hQ _ _ _ ⟨hex,I1,μ1,hs,hi1⟩
 | @turn ca keep ta tr ha hr iha ihr =>
  intro hpin e H x e' H' h w I μ a hi Q hQ
  refine .at (LoopAt.step ?_)
  simp only [execF] at h
  have hi0:Inv nt w I μ H (keepEnv keep e) a:=⟨hi.hr,hi.dom,hi.env.keep keep,hi.size,hi.defers⟩
  simp only [pinsOk,Bool.and_eq_true] at hpin
  cases hra:execF (exec S n) S ta (keepEnv keep e) H with
  | none=>rw [hra] at h;cases h
  | some p =>
   obtain ⟨x1,e1,H1⟩:=p
   rw [hra] at h
   refine (iha hpin.1 _ H x1 e1 H1 hra w I μ a hi0 _ fun ex a1 w1 ⟨hex,I1,μ1,hs,hi1⟩=>?_).1
   cases x1 with
   | nrm =>
    cases ex <;> try exact hex.elim
    exact (ihr hpin.2 e1 H1 x e' H' h w1 I1 μ1 a1 hi1 Q fun ex a' w' ⟨he,I',μ',g1,g2⟩=>hQ ex a' w' ⟨he,I',μ',hs.trans g1,g2⟩).2 ca rfl
   | ext id =>
    simp only [Option.some.injEq,Prod.mk.injEq] at h
    obtain ⟨rfl,rfl,rfl⟩:=h
    cases ex <;> try exact hex.elim
    exact hQ _ _ _ ⟨hex,I1,μ1,hs,hi1⟩
   | ret =>
    simp only [Option.some.injEq,Prod.mk.injEq] at h
    obtain ⟨rfl,rfl,rfl⟩:=h
    cases ex <;> try exact hex.elim
    exact hQ _ _ _ ⟨hex,I1,μ1,hs,hi1⟩
 | @keep cc k tb hb ihb =>
  intro hpin e H x e' H' h w I μ a hi Q hQ
  simp only [pinsOk,Bool.and_eq_true,decide_eq_true_eq] at hpin
  simp only [execF] at h
  cases hk:keepS k e H with
  | none=>rw [hk] at h;cases h
  | some p =>
   obtain ⟨e1,H1⟩:=p
   rw [hk] at h
   obtain ⟨μ1,g1,g2,g3,g4,g5⟩:=keepS_ok hi.hr hi.env hk
   refine ihb hpin.2 e1 H1 x e' H' h w I μ1 a ⟨g1,g3,g2,hi.size,hi.defers⟩ Q fun ex a' w' ⟨hex,I',μ',s1,s2⟩=>hQ ex a' w' ⟨hex,I',μ',⟨s1.ws.wide g5,s1.up,fun b q h=>(s1.new b q h).imp (fun h=>h.imp (fun h=>h) (g5 b q)) (fun h=>h),fun id loc hid hl=>s1.le id loc hid (by rw [g4 id (by omega)];exact hl),fun b q hf=>?_⟩,s2⟩
   rcases s1.foot b q hf with h1 | h1
   ·exact .inl (g5 b q h1)
   ·exact .inr h1
 | @after cc k tb hb ihb =>
  intro hpin e H x e' H' h w I μ a hi Q hQ
  simp only [pinsOk,Bool.and_eq_true,decide_eq_true_eq] at hpin
  simp only [execF] at h
  cases hra:execF (exec S n) S tb e H with
  | none=>rw [hra] at h;cases h
  | some p =>
   obtain ⟨x1,e1,H1⟩:=p
   rw [hra] at h
   refine ihb hpin.2 e H x1 e1 H1 hra w I μ a hi Q fun ex a1 w1 ⟨hex,I1,μ1,s1,s2⟩=>?_
   cases x1 with
   | nrm =>
    simp only at h
    cases hk:keepS k e1 H1 with
    | none=>rw [hk] at h;cases h
    | some q =>
     obtain ⟨e2,H2⟩:=q
     rw [hk] at h
     simp only [Option.some.injEq,Prod.mk.injEq] at h
     obtain ⟨rfl,rfl,rfl⟩:=h
     obtain ⟨μ2,g1,g2,g3,g4,g5⟩:=keepS_ok s2.hr s2.env hk
     refine hQ ex a1 w1 ⟨hex,I1,μ2,⟨s1.ws,s1.up,s1.new,fun id loc hid hl=>by rw [g4 id (by omega)];exact s1.le id loc hid hl,fun b q hf=>s1.foot b q (g5 b q hf)⟩,⟨g1,g3,g2,s2.size,s2.defers⟩⟩
   | ext id =>
    simp only [Option.some.injEq,Prod.mk.injEq] at h
    obtain ⟨rfl,rfl,rfl⟩:=h
    exact hQ ex a1 w1 ⟨hex,I1,μ1,s1,s2⟩
   | ret =>
    simp only [Option.some.injEq,Prod.mk.injEq] at h
    obtain ⟨rfl,rfl,rfl⟩:=h
    exact hQ ex a1 w1 ⟨hex,I1,μ1,s1,s2⟩
 | @trim cc l tb hb ihb =>
  intro hpin e H x e' H' h w I μ a hi Q hQ
  simp only [execF] at h
  exact ihb hpin _ H x e' H' h w I μ a ⟨hi.hr,hi.dom,hi.env.keep l,hi.size,hi.defers⟩ Q hQ
 | @fz cc t ids tb hb ihb =>
  intro hpin e H x e' H' h w I μ a hi Q hQ
  simp only [execF] at h
  obtain ⟨I1,s1,s2,s3⟩:=frz_ok (ids:=ids) hi.hr (hi.env t)
  refine ihb hpin _ _ x e' H' h w I1 μ a ⟨s2,fun id hid=>hi.dom id (by rw [killB_length] at hid;exact hid),fun y=>?_,hi.size,hi.defers⟩ Q fun ex a' w' ⟨hex,I',μ',g1,g2⟩=>hQ ex a' w' ⟨hex,I',μ',(s1.m m).trans g1,g2⟩
  simp only [put,get]
  by_cases hy:y=t
  ·subst hy;rw [if_pos rfl];exact s3
  ·rw [if_neg hy];exact (hi.env y).wide s1.up
theorem exec_ok (hS:SysOk P S):∀ n,RecOk P S (exec S n)∧(∀ (nt m:Nat) (c:Code) (keep:List Nat) (b:TC),TrC P nt c b→pinsOk m b=true→∀ (e:Env) (H:Heap) (x:TX) (e':Env) (H':Heap),exec S n (.loop keep b) e H=some (x,e',H') →
   ∀ (w:World) (I:Nat→Nat→Prop) (μ:Mu) (a:Act),Inv nt w I μ H e a→∀ Q:Exit→Act→World→Prop,(∀ ex a' w',Post nt m w I μ H x e' H' ex a' w'→Q ex a' w')→Code.rounds P c Q n a w)
 | 0=>⟨fun nt m c tc ht hp e H x e' H' h=>(by cases h),fun nt m c keep b ht hp e H x e' H' h=>(by cases h)⟩
 | n+1=>by
  obtain ⟨h1,h2⟩:=exec_ok hS n
  refine ⟨fun nt m c tc ht hp e H x e' H' h w I μ a hi Q hQ=>(execF_ok hS h1 h2 ht hp e H x e' H' h w I μ a hi Q hQ).1,fun nt m c keep b ht hp e H x e' H' h w I μ a hi Q hQ=>?_⟩
  simp only [exec,execF] at h
  have hi0:Inv nt w I μ H (keepEnv keep e) a:=⟨hi.hr,hi.dom,hi.env.keep keep,hi.size,hi.defers⟩
  cases hra:execF (exec S n) S b (keepEnv keep e) H with
  | none=>rw [hra] at h;cases h
  | some p =>
   obtain ⟨x1,e1,H1⟩:=p
   rw [hra] at h
   rw [rounds_succ]
   refine (execF_ok hS h1 h2 ht hp _ H x1 e1 H1 hra w I μ a hi0 _ fun ex a1 w1 ⟨hex,I1,μ1,hs,hi1⟩=>?_).1
   cases x1 with
   | nrm =>
    cases ex <;> try exact hex.elim
    exact h2 nt m c keep b ht hp e1 H1 x e' H' h w1 I1 μ1 a1 hi1 Q fun ex a' w' ⟨he,I',μ',g1,g2⟩=>hQ ex a' w' ⟨he,I',μ',hs.trans g1,g2⟩
   | ext id =>
    simp only [Option.some.injEq,Prod.mk.injEq] at h
    obtain ⟨rfl,rfl,rfl⟩:=h
    cases ex <;> try exact hex.elim
    exact hQ _ _ _ ⟨hex,I1,μ1,hs,hi1⟩
   | ret =>
    simp only [Option.some.injEq,Prod.mk.injEq] at h
    obtain ⟨rfl,rfl,rfl⟩:=h
    cases ex <;> try exact hex.elim
    exact hQ _ _ _ ⟨hex,I1,μ1,hs,hi1⟩
theorem calls_of_X (hS:SysOk P S) {f m:Nat} {tf:TFn} (hf:FnOk P f tf) (hpin:pinsOk m tf.code=true) {ts:List TV} {vs:Array Value} {H H':Heap} {v:TV} (h:callFn (X S) tf ts H=some (v,H')) {w:World} {I:Nat→Nat→Prop} {μ:Mu} (hr:HR w I μ (look H))
  (hdom:∀ id,H.length≤id→μ id=none) (hvs:VRL w I μ ts vs.toList) :
  Calls P f vs w fun en w'=>∃ (vv:Value) (I':Nat→Nat→Prop) (μ':Mu),en=.returned vv∧StpM m w I μ (look H) w' I' μ' (look H')∧HR w' I' μ' (look H')∧(∀ id,H'.length≤id→μ' id=none)∧VR w' I' μ' v vv:=by
 obtain ⟨n,hn⟩:=callFn_X h
 exact callFn_ok (exec_ok hS n).1 hf hpin hn hr hdom hvs
theorem HR.empty {w:World} {I:Nat→Nat→Prop} (h:Lt w I):HR w I Mu.none (look []) :=
 ⟨fun id sz l hl=>(by cases hl),fun id id' sz l sz' l' loc loc' h1=>(by cases h1),fun b k ⟨id,sz,l,loc,h1,_⟩=>(by cases h1),h⟩
theorem WStep.ext {F:Nat→Nat→Prop} {w w':World} (h:WStep F w w') (hF:∀ b k,¬ F b k):Ext w w' :=
 ⟨h.os,h.tape,h.output,h.size,fun b hb=>h.other b hb (hF b)⟩
theorem RuleOk.keep (hS:SysOk P S) {f:Nat} {tf:TFn} (hf:FnOk P f tf) {F:Rule} (h:∀ ts r N,F ts=some (r,N)→callFn (X S) tf ts []=some (r,N)):RuleOk P f F:=by
 refine ⟨hf.1,fun ts r N hF w I vs hI hvs=>?_⟩
 refine (calls_of_X hS hf (pinsOk_zero _) (h ts r N hF) (HR.empty hI) (fun _ _=>rfl) hvs).mono fun en w' ⟨vv,I',μ',he,hs,hr,hdom,hv⟩=>?_
 have hF0:∀ b k,¬ Foot Mu.none (look []) b k:=fun b k ⟨id,sz,l,loc,h1,_⟩=>by cases h1
 refine ⟨vv,I',μ',he,hs.ws.ext hF0,hs.up,fun b k h=>(hs.new b k h).imp (fun h=>h.resolve_right (hF0 b k)) (fun h=>h),hr,hv,fun b k hf=>?_,fun id loc hm=>?_⟩
 ·rcases hs.foot b k hf with h1 | h1
  ·exact absurd h1 (hF0 b k)
  ·exact h1
 ·rcases Nat.lt_or_ge id N.length with h1 | h1
  ·exact h1
  ·rw [hdom id h1] at hm;cases hm
theorem RuleOk.tree (hS:SysOk P S) {f:Nat} {tf:TFn} (hf:FnOk P f tf) {F:Rule} (h:∀ ts r N,F ts=some (r,N)→N=[]∧∃ v H,callFn (X S) tf ts []=some (v,H)∧reify H 4 v=r):RuleOk P f F:=by
 refine ⟨hf.1,fun ts r N hF w I vs hI hvs=>?_⟩
 obtain ⟨rfl,v,H,hcall,rfl⟩:=h ts r N hF
 refine (calls_of_X hS hf (pinsOk_zero _) hcall (HR.empty hI) (fun _ _=>rfl) hvs).mono fun en w' ⟨vv,I',μ',he,hs,hr,hdom,hv⟩=>?_
 have hF0:∀ b k,¬ Foot Mu.none (look []) b k:=fun b k ⟨id,sz,l,loc,h1,_⟩=>by cases h1
 have hnew:∀ b k,Foot μ' (look H) b k→w.heap.size≤b:=fun b k hf=>by
  rcases hs.foot b k hf with h1 | h1
  ·exact absurd h1 (hF0 b k)
  ·exact h1
 refine ⟨vv,Rd I' μ' (look H),Mu.none,he,hs.ws.ext hF0,fun b k hi=>.inl (hs.up b k hi),fun b k hi=>?_,HR.empty ⟨fun b k hi=>?_,fun p hp=>⟨(hr.lt.g p hp).1,fun k=>.inl ((hr.lt.g p hp).2 k)⟩⟩,reify_ok hr 4 hv,fun b k ⟨id,sz,l,loc,h1,_⟩=>(by cases h1),fun id loc hm=>(by cases hm)⟩
 ·rcases hi with h1 | h1
  ·exact (hs.new b k h1).imp (fun h=>h.resolve_right (hF0 b k)) (fun h=>h)
  ·exact .inr (hnew b k h1)
 ·rcases hi with h1 | h1
  ·exact hr.lt b k h1
  ·exact foot_lt hr h1
theorem MRuleOk.body (hS:SysOk P S) {f m:Nat} {tf:TFn} (hf:FnOk P f tf) (hpin:pinsOk m tf.code=true) {F:MRule} (h:∀ ts B r N,F ts B=some (r,N)→m≤B.length∧m≤N.length∧callFn (X S) tf ts B=some (r,N)):MRuleOk P f m F:=by
 refine ⟨hf.1,fun ts B r N hF=>?_⟩
 obtain ⟨h1,h2,h3⟩:=h ts B r N hF
 exact ⟨h1,h2,fun w I μ vs hr hdom hvs=>calls_of_X hS hf hpin h3 hr hdom hvs⟩
end
end Go.Proofs.TM
