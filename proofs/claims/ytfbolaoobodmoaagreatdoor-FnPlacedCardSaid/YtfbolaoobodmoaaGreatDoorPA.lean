import Derived.Test.YtfbolaoobodmoaaGreatDoorTFun
import Derived.Test.YtfbolaoobodmoaaGreatDoorPL5
import Derived.Test.YtfbolaoobodmoaaGreatDoorTGlue
import Derived.Test.YtfbolaoobodmoaaGreatDoorTReadR
namespace Go.Proofs.TM
open Go Go.Proofs
theorem loop_some {σ ρ:Type} {f:σ → Option (σ ⊕ ρ)} {r:ρ} (n:Nat) (I:Nat → σ → Prop)
  (h:∀ i s,i ≤ n → I i s → f s = some (.inr r) ∨ (i < n ∧ ∃ s',f s = some (.inl s') ∧ I (i + 1) s')) :
  ∀ k i s,k + i = n → I i s → loopO f s = some r:=by
 intro k
 induction k with
 | zero =>
  intro i s hi hs
  rcases h i s (by omega) hs with h1 | ⟨h1,_⟩
  ·rw [loopO_unfold,h1]; rfl
  ·omega
 | succ k ih =>
  intro i s hi hs
  rcases h i s (by omega) hs with h1 | ⟨h1,s',h2,h3⟩
  ·rw [loopO_unfold,h1]; rfl
  ·rw [loopO_unfold,h2]; exact ih (i + 1) s' (by omega) h3
theorem loop_ex {σ ρ:Type} {f:σ → Option (σ ⊕ ρ)} (P:ρ → Prop) (n:Nat) (I:Nat → σ → Prop)
  (h:∀ i s,i ≤ n → I i s → (∃ r,f s = some (.inr r) ∧ P r) ∨ (i < n ∧ ∃ s',f s = some (.inl s') ∧ I (i + 1) s')) :
  ∀ k i s,k + i = n → I i s → ∃ r,loopO f s = some r ∧ P r:=by
 intro k
 induction k with
 | zero =>
  intro i s hi hs
  rcases h i s (by omega) hs with ⟨r,h1,hp⟩ | ⟨h1,_⟩
  ·exact ⟨r,by rw [loopO_unfold,h1]; rfl,hp⟩
  ·omega
 | succ k ih =>
  intro i s hi hs
  rcases h i s (by omega) hs with ⟨r,h1,hp⟩ | ⟨h1,s',h2,h3⟩
  ·exact ⟨r,by rw [loopO_unfold,h1]; rfl,hp⟩
  ·obtain ⟨r,hr,hp⟩:=ih (i + 1) s' (by omega) h3
   exact ⟨r,by rw [loopO_unfold,h2]; exact hr,hp⟩
open Classical in
theorem loop_all {ρ:Type} (n:Nat) (p:Nat → Prop) (f:Int → Option (Int ⊕ ρ)) (rT rF:ρ)
  (h1:∀ i:Nat,i < n → p i → f (i:Int) = some (.inl ((i:Int) + 1)))
  (h2:∀ i:Nat,i < n → ¬p i → f (i:Int) = some (.inr rF))
  (h3:f (n:Int) = some (.inr rT)):loopO f 0 = some (if ∀ i,i < n → p i then rT else rF):=by
 by_cases hp:∀ i,i < n → p i
 ·rw [if_pos hp]
  refine loop_some n (fun i s=>s = (i:Int)) (fun i s hi hs=>?_) n 0 0 (by omega) rfl
  subst hs
  by_cases hn:i < n
  ·exact .inr ⟨hn,_,h1 i hn (hp i hn),by omega⟩
  ·have:i = n:=by omega
   subst this; exact .inl h3
 ·rw [if_neg hp]
  refine loop_some n (fun i s=>s = (i:Int) ∧ ∀ j,j < i → p j) (fun i s hi hs=>?_) n 0 0 (by omega) ⟨rfl,fun j hj=>by omega⟩
  obtain ⟨rfl,hall⟩:=hs
  by_cases hn:i < n
  ·by_cases hpi:p i
   ·refine .inr ⟨hn,_,h1 i hn hpi,by omega,fun j hj=>?_⟩
    by_cases hji:j = i
    ·subst hji; exact hpi
    ·exact hall j (by omega)
   ·exact .inl (h2 i hn hpi)
  ·have:i = n:=by omega
   subst this; exact absurd hall hp
theorem all_get {α:Type} {l:List α} {P:α → Prop}:(∀ i,i < l.length → ∀ x,l[i]? = some x → P x) ↔ ∀ x ∈ l,P x:=by
 constructor
 ·intro h x hx
  obtain ⟨i,hi,rfl⟩:=List.mem_iff_getElem.1 hx
  exact h i hi _ (List.getElem?_eq_getElem hi)
 ·intro h i hi x hx
  exact h x (List.mem_of_getElem? hx)
open Classical in
theorem loop_mem {α ρ:Type} (l:List α) (p:α → Prop) (f:Int → Option (Int ⊕ ρ)) (rT rF:ρ)
  (h1:∀ (i:Nat) x,i < l.length → l[i]? = some x → p x → f (i:Int) = some (.inl ((i:Int) + 1)))
  (h2:∀ (i:Nat) x,i < l.length → l[i]? = some x → ¬p x → f (i:Int) = some (.inr rF))
  (h3:f (l.length:Int) = some (.inr rT)):loopO f 0 = some (if ∀ x ∈ l,p x then rT else rF):=by
 rw [loop_all l.length (fun i=>∀ x,l[i]? = some x → p x) f rT rF ?_ ?_ h3]
 ·simp only [all_get]
 ·intro i hi hp
  obtain ⟨x,hx⟩:∃ x,l[i]? = some x:=⟨_,List.getElem?_eq_getElem hi⟩
  exact h1 i x hi hx (hp x hx)
 ·intro i hi hp
  obtain ⟨x,hx⟩:∃ x,l[i]? = some x:=⟨_,List.getElem?_eq_getElem hi⟩
  exact h2 i x hi hx (fun h=>hp (fun y hy=>by rw [hx] at hy; cases hy; exact h))
theorem loop_find {α ρ:Type} (l:List α) (p:α → Prop) (f:Int → Option (Int ⊕ (ρ ⊕ Int))) (rT:ρ)
  (h1:∀ (i:Nat) x,i < l.length → l[i]? = some x → p x → f (i:Int) = some (.inl ((i:Int) + 1)))
  (h2:∀ (i:Nat) x,i < l.length → l[i]? = some x → ¬p x → f (i:Int) = some (.inr (.inr (i:Int))))
  (h3:f (l.length:Int) = some (.inr (.inl rT))) :
  ∃ r,loopO f 0 = some r ∧ ((r = .inl rT ∧ ∀ x ∈ l,p x) ∨ (∃ k:Int,r = .inr k ∧ 0 ≤ k ∧ ¬∀ x ∈ l,p x)):=by
 refine loop_ex _ l.length (fun i s=>s = (i:Int) ∧ ∀ j,j < i → ∀ x,l[j]? = some x → p x) (fun i s hi hs=>?_) l.length 0 0 (by omega) ⟨rfl,fun j hj=>by omega⟩
 obtain ⟨rfl,hall⟩:=hs
 by_cases hn:i < l.length
 ·obtain ⟨x,hx⟩:∃ x,l[i]? = some x:=⟨_,List.getElem?_eq_getElem hn⟩
  by_cases hpi:p x
  ·refine .inr ⟨hn,_,h1 i x hn hx hpi,by omega,fun j hj y hy=>?_⟩
   by_cases hji:j = i
   ·subst hji; rw [hx] at hy; cases hy; exact hpi
   ·exact hall j (by omega) y hy
  ·refine .inl ⟨_,h2 i x hn hx hpi,.inr ⟨i,rfl,by omega,fun h=>hpi (h x (List.mem_of_getElem? hx))⟩⟩
 ·have:i = l.length:=by omega
  subst this
  exact .inl ⟨_,h3,.inl ⟨rfl,all_get.1 hall⟩⟩
theorem wrap_in {n:Int} (h:-9223372036854775808 ≤ n) (h':n ≤ 9223372036854775807):IntKind.i64.wrap n = n:=by rw [IntKind.wrap_i64]; omega
theorem get_at {α:Type} {l:List α} {i:Nat} (h:i < l.length):∃ x,l[i]? = some x:=⟨_,List.getElem?_eq_getElem h⟩
theorem mkL_ok {α:Type} (bs n:Nat) (z:α) (h:n * bs ≤ maxRow) (h':n ≤ maxRow):mkL bs (n:Int) (n:Int) z = some (List.replicate n z):=by
 unfold mkL; rw [if_pos ⟨by omega,rfl,by simpa using h,by simpa using h'⟩]; simp
theorem appL_nil {α:Type} (bs:Nat) (l:List α) (h:l.length * (bs + 1) ≤ maxRow):appL bs [] l = some l:=by
 unfold appL; rw [if_pos (by simpa using h)]; simp
theorem loopO_inl {σ ρ:Type} {f:σ → Option (σ ⊕ ρ)} {s s':σ} (h:f s = some (.inl s')):loopO f s = loopO f s':=by rw [loopO_unfold,h]; rfl
theorem loopO_inr {σ ρ:Type} {f:σ → Option (σ ⊕ ρ)} {s:σ} {r:ρ} (h:f s = some (.inr r)):loopO f s = some r:=by rw [loopO_unfold,h]; rfl
abbrev DDisk:=List Str × List (Int × Str) × Int × Bool
abbrev DSuper:=Int × Int × Int × Int
theorem w1 {i:Nat} (h:i < 9223372036854775807):IntKind.i64.wrap ((i:Int) + 1) = (i:Int) + 1:=wrap_in (by omega) (by omega)
theorem dF {Q:Prop} {d:Decidable Q} (h:¬Q):some false = some (@decide Q d):=by rw [decide_eq_false h]
theorem dT {Q:Prop} {d:Decidable Q} (h:Q):some true = some (@decide Q d):=by rw [decide_eq_true h]
theorem dI {P Q:Prop} {d:Decidable P} {d':Decidable Q} (h:P ↔ Q):some (@decide P d) = some (@decide Q d'):=by
 by_cases hp:P
 ·rw [decide_eq_true hp,decide_eq_true (h.1 hp)]
 ·rw [decide_eq_false hp,decide_eq_false (fun q=>hp (h.2 q))]
theorem deq {p:Prop} {d:Decidable p}:(@decide p d = true) = p:=by simp
theorem bind_some' {α:Type} (x:Option α):(x.bind fun r=>some r) = x:=by cases x <;> rfl
theorem subL_from {α:Type} (s:List α) (k:Nat) (h:k ≤ s.length):subL s (some (k:Int)) none = some (s.drop k):=by
 simp [subL,bound,h]
theorem subL_to {α:Type} (s:List α) (k:Nat) (h:k ≤ s.length):subL s none (some (k:Int)) = some (s.take k):=by
 simp [subL,bound,h]
theorem subL_mid {α:Type} (s:List α) (a b:Nat) (h:a ≤ b) (h':b ≤ s.length):subL s (some (a:Int)) (some (b:Int)) = some ((s.take b).drop a):=by
 simp [subL,bound,h,h']
theorem l00In_out (n a b:Int):spec_l00In n a b = some (decide (a ≤ n ∧ n ≤ b)):=by
 unfold spec_l00In; by_cases h:n ≥ a
 ·rw [if_pos h]; have:a ≤ n:=h; simp [this]
 ·rw [if_neg h]; have:¬a ≤ n:=h; simp [this]
theorem within_out (n a b:Int):impl_within n a b = some (decide (a ≤ n ∧ n ≤ b)):=l00In_out n a b
def DiskV (d:DDisk):Prop:=16 ≤ (d.1.length:Int) ∧ (d.1.length:Int) ≤ 256 ∧ (d.2.1.length:Int) ≤ 600 ∧ -1 ≤ d.2.2.1 ∧ d.2.2.1 ≤ 100000 ∧ (∀ x ∈ d.1,x.length = 64) ∧ ∀ p ∈ d.2.1,0 ≤ p.1 ∧ p.1 ≤ (d.1.length:Int) - 1 ∧ p.2.length = 64
open Classical in
theorem l09Ok_out (d:DDisk):spec_l09Ok d = some (decide (DiskV d)):=by
 unfold spec_l09Ok
 rw [l00In_out,obs]
 by_cases h1:16 ≤ (d.1.length:Int) ∧ (d.1.length:Int) ≤ 256
 case neg=>rw [if_pos (by simp [h1])]; exact dF fun h=>h1 ⟨h.1,h.2.1⟩
 rw [if_neg (by simp [h1])]
 by_cases h2:(d.2.1.length:Int) > 600
 case pos=>rw [if_pos h2]; exact dF fun h=>by have:=h.2.2.1; omega
 rw [if_neg h2,l00In_out,obs]
 by_cases h3:-1 ≤ d.2.2.1 ∧ d.2.2.1 ≤ 100000
 case neg=>rw [if_pos (by simp [h3])]; exact dF fun h=>h3 ⟨h.2.2.2.1,h.2.2.2.2.1⟩
 rw [if_neg (by simp [h3])]
 unfold spec_l09Ok_l1
 rw [loop_mem d.1 (fun x=>x.length = 64) (fun s=>spec_l09Ok_l1_b d.1 d.2.1 d.2.2.1 d.2.2.2 d.1.length s) (.inl (d.1,d.2.1,d.2.2.1,d.2.2.2,(d.1.length:Int))) (.inr false) (fun i x hi hx hp=>by
   have hx':=(List.getElem?_eq_some_iff.1 hx).2
   have hp':(x.length:Int) = 64:=by omega
   simp [spec_l09Ok_l1_b,hi,hx',hp',w1 (show i < 9223372036854775807 by omega)]) (fun i x hi hx hp=>by
   have hx':=(List.getElem?_eq_some_iff.1 hx).2
   have hp':¬(x.length:Int) = 64:=by omega
   simp [spec_l09Ok_l1_b,hi,hx',hp']) (by simp [spec_l09Ok_l1_b])]
 by_cases h4:∀ x ∈ d.1,x.length = 64
 case neg=>rw [if_neg h4]; exact dF fun h=>h4 h.2.2.2.2.2.1
 rw [if_pos h4]
 simp only [obs,Sum.elim_inl]
 unfold spec_l09Ok_l2
 rw [loop_mem d.2.1 (fun p=>0 ≤ p.1 ∧ p.1 ≤ (d.1.length:Int) - 1 ∧ p.2.length = 64) (fun s=>spec_l09Ok_l2_b d.1 d.2.1 d.2.2.1 d.2.2.2 d.1.length s) (.inl ()) (.inr false) (fun i x hi hx hp=>by
   have hx':=(List.getElem?_eq_some_iff.1 hx).2
   have hp':(x.2.length:Int) = 64:=by omega
   simp [spec_l09Ok_l2_b,hi,hx',hp',hp.1,hp.2.1,l00In_out,wrap_in (show -9223372036854775808 ≤ (d.1.length:Int) - 1 by omega) (by omega),w1 (show i < 9223372036854775807 by omega)]) (fun i x hi hx hp=>by
   have hx':=(List.getElem?_eq_some_iff.1 hx).2
   simp [spec_l09Ok_l2_b,hi,hx',l00In_out,wrap_in (show -9223372036854775808 ≤ (d.1.length:Int) - 1 by omega) (by omega)]
   by_cases hq:0 ≤ x.1 ∧ x.1 ≤ (d.1.length:Int) - 1
   ·have hp':¬(x.2.length:Int) = 64:=fun h=>hp ⟨hq.1,hq.2,by omega⟩
    simp [hq.1,hq.2,hp']
   ·intro a b; exact absurd ⟨a,b⟩ hq) (by simp [spec_l09Ok_l2_b])]
 by_cases h5:∀ p ∈ d.2.1,0 ≤ p.1 ∧ p.1 ≤ (d.1.length:Int) - 1 ∧ p.2.length = 64
 ·rw [if_pos h5]; exact dT ⟨h1.1,h1.2,by omega,h3.1,h3.2,h4,h5⟩
 ·rw [if_neg h5]; exact dF fun h=>h5 h.2.2.2.2.2.2
open Classical in
theorem ValidDisk_out (d:DDisk):impl_ValidDisk d = some (decide (DiskV d)):=by
 unfold impl_ValidDisk
 rw [within_out,obs]
 by_cases h1:16 ≤ (d.1.length:Int) ∧ (d.1.length:Int) ≤ 256
 case neg=>rw [if_pos (by simp [h1])]; exact dF fun h=>h1 ⟨h.1,h.2.1⟩
 rw [if_neg (by simp [h1])]
 by_cases h2:(d.2.1.length:Int) > 600
 case pos=>rw [if_pos h2]; exact dF fun h=>by have:=h.2.2.1; omega
 rw [if_neg h2,within_out,obs]
 by_cases h3:-1 ≤ d.2.2.1 ∧ d.2.2.1 ≤ 100000
 case neg=>rw [if_pos (by simp [h3])]; exact dF fun h=>h3 ⟨h.2.2.2.1,h.2.2.2.2.1⟩
 rw [if_neg (by simp [h3])]
 unfold slices_ContainsFunc_string_string__ValidDisk_c1 slices_IndexFunc_string_string__ValidDisk_c1 slices_IndexFunc_string_string__ValidDisk_c1_l1
 obtain ⟨r,hr,hx⟩:=loop_find d.1 (fun x=>x.length = 64) (fun s=>slices_IndexFunc_string_string__ValidDisk_c1_l1_b d.1 d.1.length s) () (fun i x hi hx hp=>by
   have hx':=(List.getElem?_eq_some_iff.1 hx).2
   have hp':(x.length:Int) = 64:=by omega
   simp [slices_IndexFunc_string_string__ValidDisk_c1_l1_b,impl_ValidDisk_c1,impl_isBlock,hi,hx',hp',w1 (show i < 9223372036854775807 by omega)]) (fun i x hi hx hp=>by
   have hx':=(List.getElem?_eq_some_iff.1 hx).2
   have hp':¬(x.length:Int) = 64:=by omega
   simp [slices_IndexFunc_string_string__ValidDisk_c1_l1_b,impl_ValidDisk_c1,impl_isBlock,hi,hx',hp']) (by simp [slices_IndexFunc_string_string__ValidDisk_c1_l1_b])
 rw [hr]
 rcases hx with ⟨rfl,h4⟩ | ⟨k,rfl,hk,h4⟩
 case inr=>simp [hk]; exact fun h=>h4 h.2.2.2.2.2.1
 simp only [obs,Sum.elim_inl]
 rw [if_neg (by simp)]
 unfold slices_ContainsFunc_impl_Put_impl_Put__ValidDisk_c2 slices_IndexFunc_impl_Put_impl_Put__ValidDisk_c2 slices_IndexFunc_impl_Put_impl_Put__ValidDisk_c2_l1
 obtain ⟨r,hr,hx⟩:=loop_find d.2.1 (fun p=>0 ≤ p.1 ∧ p.1 ≤ (d.1.length:Int) - 1 ∧ p.2.length = 64) (fun s=>slices_IndexFunc_impl_Put_impl_Put__ValidDisk_c2_l1_b d.2.1 d.1 d.2.1 d.2.2.1 d.2.2.2 d.2.1.length s) () (fun i x hi hx hp=>by
   have hx':=(List.getElem?_eq_some_iff.1 hx).2
   have hp':(x.2.length:Int) = 64:=by omega
   simp [slices_IndexFunc_impl_Put_impl_Put__ValidDisk_c2_l1_b,impl_ValidDisk_c2,impl_isIndex,within_out,impl_isBlock,hi,hx',hp',hp.1,hp.2.1,wrap_in (show -9223372036854775808 ≤ (d.1.length:Int) - 1 by omega) (by omega),w1 (show i < 9223372036854775807 by omega)]) (fun i x hi hx hp=>by
   have hx':=(List.getElem?_eq_some_iff.1 hx).2
   simp [slices_IndexFunc_impl_Put_impl_Put__ValidDisk_c2_l1_b,impl_ValidDisk_c2,impl_isIndex,within_out,impl_isBlock,hi,hx',wrap_in (show -9223372036854775808 ≤ (d.1.length:Int) - 1 by omega) (by omega)]
   by_cases hq:0 ≤ x.1 ∧ x.1 ≤ (d.1.length:Int) - 1
   ·have hp':¬(x.2.length:Int) = 64:=fun h=>hp ⟨hq.1,hq.2,by omega⟩
    simp [hq.1,hq.2,hp']
   ·intro a b; exact absurd ⟨a,b⟩ hq) (by simp [slices_IndexFunc_impl_Put_impl_Put__ValidDisk_c2_l1_b])
 rw [hr]
 rcases hx with ⟨rfl,h5⟩ | ⟨k,rfl,hk,h5⟩
 ·simp; exact ⟨h1.1,h1.2,by omega,h3.1,h3.2,h4,h5⟩
 ·simp [hk]; exact fun h=>h5 h.2.2.2.2.2.2
def SuperV (s:DSuper):Prop:=16 ≤ s.1 ∧ s.1 ≤ 256 ∧ 8 ≤ s.2.1 ∧ s.2.1 ≤ 64 ∧ s.2.1 ≤ s.1 - 4 ∧ 0 ≤ s.2.2.1 ∧ s.2.2.1 ≤ 1000000000000 ∧ 0 ≤ s.2.2.2 ∧ s.2.2.2 ≤ 1000000000000
open Classical in
theorem sValidSuper_out (s:DSuper):spec_ValidSuper s = some (decide (SuperV s)):=by
 unfold spec_ValidSuper SuperV
 simp only [l00In_out,obs,decide_eq_true_eq]
 by_cases h1:16 ≤ s.1 ∧ s.1 ≤ 256
 case neg=>rw [if_neg h1]; exact dF fun h=>h1 ⟨h.1,h.2.1⟩
 rw [if_pos h1,wrap_in (by omega) (by omega)]
 split
 ·split
  ·split
   ·exact dI (by omega)
   ·exact dF (by omega)
  ·exact dF (by omega)
 ·exact dF (by omega)
open Classical in
theorem iValidSuper_out (s:DSuper):impl_ValidSuper s = some (decide (SuperV s)):=by
 unfold impl_ValidSuper SuperV
 simp only [within_out,obs,decide_eq_true_eq]
 by_cases h1:16 ≤ s.1 ∧ s.1 ≤ 256
 case neg=>rw [if_neg h1]; exact dF fun h=>h1 ⟨h.1,h.2.1⟩
 rw [if_pos h1,wrap_in (by omega) (by omega)]
 split
 ·split
  ·exact dI (by omega)
  ·exact dF (by omega)
 ·exact dF (by omega)
abbrev DPager:=DDisk × DSuper × Int × Int × List (Int × Str) × List (Int × Str)
def PagerIn (a:DPager) (L:Nat):Prop:=a.1.1.length ≤ L ∧ a.1.2.1.length ≤ L ∧ a.2.2.2.2.1.length ≤ L ∧ a.2.2.2.2.2.length ≤ L
theorem superFits_out (d:DDisk) (s:DSuper):impl_superFits d s = some (@decide (DiskV d ∧ SuperV s ∧ s.1 = (d.1.length:Int)) (Classical.propDecidable _)):=by
 unfold impl_superFits
 simp only [ValidDisk_out,iValidSuper_out,obs,decide_eq_true_eq]
 split
 ·split
  ·exact dI (by simp_all)
  ·exact dF (by simp_all)
 ·exact dF (by simp_all)
def PageV (l:List (Int × Str)) (i:Nat):Prop:=∀ x,l[i]? = some x → 0 ≤ x.1 ∧ x.1 ≤ 255 ∧ x.2.length = 64 ∧ (0 < i → ∀ y,l[i - 1]? = some y → y.1 < x.1)
def PagesV (l:List (Int × Str)):Prop:=l.length ≤ 256 ∧ ∀ i,i < l.length → PageV l i
theorem l11Pages_out (l:List (Int × Str)) (hl:l.length ≤ 1048576):spec_l11Pages l = some (@decide (PagesV l) (Classical.propDecidable _)):=by
 unfold spec_l11Pages
 by_cases h1:(l.length:Int) > 256
 case pos=>rw [if_pos h1]; exact dF fun h=>by have:=h.1; omega
 rw [if_neg h1]
 unfold spec_l11Pages_l1
 rw [loop_all l.length (PageV l) (fun s=>spec_l11Pages_l1_b l s) (.inl ()) (.inr false) (fun i hi hp=>by
   obtain ⟨x,hx⟩:=get_at hi
   have hx':=(List.getElem?_eq_some_iff.1 hx).2
   obtain ⟨a,b,c,e⟩:=hp x hx
   have c':(x.2.length:Int) = 64:=by omega
   simp only [spec_l11Pages_l1_b,Int.ofNat_lt.2 hi,Int.natCast_nonneg,Int.toNat_natCast,hx,if_true,obs,l00In_out,a,b,c',and_self,decide_true,not_true_eq_false,if_false,w1 (show i < 9223372036854775807 by omega)]
   by_cases h0:(i:Int) > 0
   ·rw [if_pos h0,wrap_in (by omega) (by omega),if_pos (by omega),show ((i:Int) - 1).toNat = i - 1 by omega]
    obtain ⟨y,hy⟩:=get_at (l:=l) (show i - 1 < l.length by omega)
    rw [hy,obs,if_neg (by have:=e (by omega) y hy; omega)]
   ·rw [if_neg h0]) (fun i hi hp=>by
   obtain ⟨x,hx⟩:=get_at hi
   simp only [spec_l11Pages_l1_b,Int.ofNat_lt.2 hi,Int.natCast_nonneg,Int.toNat_natCast,hx,if_true,obs,l00In_out,deq]
   by_cases a:0 ≤ x.1 ∧ x.1 ≤ 255
   case neg=>rw [if_pos a]
   rw [if_neg (by simpa using a)]
   by_cases c:(x.2.length:Int) = 64
   case neg=>rw [if_pos c]
   rw [if_neg (by simpa using c)]
   by_cases h0:(i:Int) > 0
   ·rw [if_pos h0,wrap_in (by omega) (by omega),if_pos (by omega),show ((i:Int) - 1).toNat = i - 1 by omega]
    obtain ⟨y,hy⟩:=get_at (l:=l) (show i - 1 < l.length by omega)
    rw [hy,obs]
    by_cases e:y.1 ≥ x.1
    ·rw [if_pos e]
    ·exfalso; apply hp; intro x' hx'; rw [hx] at hx'; cases hx'
     exact ⟨a.1,a.2,by omega,fun _ y' hy'=>by rw [hy] at hy'; cases hy'; omega⟩
   ·exfalso; apply hp; intro x' hx'; rw [hx] at hx'; cases hx'
    exact ⟨a.1,a.2,by omega,fun h=>by omega⟩) (by simp [spec_l11Pages_l1_b])]
 by_cases h5:∀ i,i < l.length → PageV l i
 ·rw [if_pos h5]; exact dT ⟨by omega,h5⟩
 ·rw [if_neg h5]; exact dF fun h=>h5 h.2
theorem ValidPages_out (l:List (Int × Str)) (hl:l.length ≤ 1048576):impl_ValidPages l = some (@decide (PagesV l) (Classical.propDecidable _)):=by
 unfold impl_ValidPages
 unfold impl_ValidPages_l1
 rw [loop_all l.length (PageV l) (fun s=>impl_ValidPages_l1_b l l l.length s) (.inl l) (.inr false) (fun i hi hp=>by
   obtain ⟨x,hx⟩:=get_at hi
   obtain ⟨a,b,c,e⟩:=hp x hx
   have c':(x.2.length:Int) = 64:=by omega
   simp only [impl_ValidPages_l1_b,impl_isBlock,Int.ofNat_lt.2 hi,Int.natCast_nonneg,Int.toNat_natCast,hx,if_true,obs,within_out,a,b,c',and_self,decide_true,not_true_eq_false,if_false,w1 (show i < 9223372036854775807 by omega)]
   by_cases h0:(i:Int) > 0
   ·rw [if_pos h0,wrap_in (by omega) (by omega),if_pos (by omega),show ((i:Int) - 1).toNat = i - 1 by omega]
    obtain ⟨y,hy⟩:=get_at (l:=l) (show i - 1 < l.length by omega)
    rw [hy,obs,if_neg (by have:=e (by omega) y hy; omega)]
   ·rw [if_neg h0]) (fun i hi hp=>by
   obtain ⟨x,hx⟩:=get_at hi
   simp only [impl_ValidPages_l1_b,impl_isBlock,Int.ofNat_lt.2 hi,Int.natCast_nonneg,Int.toNat_natCast,hx,if_true,obs,within_out,deq]
   by_cases a:0 ≤ x.1 ∧ x.1 ≤ 255
   case neg=>rw [if_pos a]
   rw [if_neg (by simpa using a)]
   by_cases h0:(i:Int) > 0
   ·rw [if_pos h0,wrap_in (by omega) (by omega),if_pos (by omega),show ((i:Int) - 1).toNat = i - 1 by omega]
    obtain ⟨y,hy⟩:=get_at (l:=l) (show i - 1 < l.length by omega)
    rw [hy,obs]
    by_cases e:x.1 ≤ y.1
    ·rw [if_pos e]
    rw [if_neg e]
    by_cases c:(x.2.length:Int) = 64
    case neg=>rw [if_pos c]
    exfalso; apply hp; intro x' hx'; rw [hx] at hx'; cases hx'
    exact ⟨a.1,a.2,by omega,fun _ y' hy'=>by rw [hy] at hy'; cases hy'; omega⟩
   ·rw [if_neg h0]
    by_cases c:(x.2.length:Int) = 64
    case neg=>rw [if_pos c]
    exfalso; apply hp; intro x' hx'; rw [hx] at hx'; cases hx'
    exact ⟨a.1,a.2,by omega,fun h=>by omega⟩) (by simp [impl_ValidPages_l1_b])]
 by_cases h5:∀ i,i < l.length → PageV l i
 ·rw [if_pos h5]; simp only [obs,Sum.elim_inl]; exact dI ⟨fun h=>⟨by omega,h5⟩,fun h=>by have:=h.1; omega⟩
 ·rw [if_neg h5]; exact dF fun h=>h5 h.2
def WithinV (s:DSuper) (l:List (Int × Str)):Prop:=∀ x ∈ l,2 + s.2.1 ≤ x.1 ∧ x.1 ≤ s.1 - 1
theorem l11Within_out (s:DSuper) (l:List (Int × Str)) (hs:SuperV s) (hl:l.length ≤ 1048576):spec_l11Within s l = some (@decide (WithinV s l) (Classical.propDecidable _)):=by
 have hs':=hs
 obtain ⟨a1,a2,a3,a4,a5,_⟩:=hs'
 unfold spec_l11Within
 unfold spec_l11Within_l1
 rw [loop_mem l (fun x=>2 + s.2.1 ≤ x.1 ∧ x.1 ≤ s.1 - 1) (fun t=>spec_l11Within_l1_b l s t) (.inl ()) (.inr false) (fun i x hi hx hp=>by
   have hx':=(List.getElem?_eq_some_iff.1 hx).2
   simp [spec_l11Within_l1_b,spec_l10Area,l00In_out,hi,hx',hp.1,hp.2,wrap_in (show -9223372036854775808 ≤ s.1 - 1 by omega) (by omega),wrap_in (show -9223372036854775808 ≤ 2 + s.2.1 by omega) (by omega),w1 (show i < 9223372036854775807 by omega)]) (fun i x hi hx hp=>by
   have hx':=(List.getElem?_eq_some_iff.1 hx).2
   simp [spec_l11Within_l1_b,spec_l10Area,l00In_out,hi,hx',wrap_in (show -9223372036854775808 ≤ s.1 - 1 by omega) (by omega),wrap_in (show -9223372036854775808 ≤ 2 + s.2.1 by omega) (by omega)]
   intro a; omega) (by simp [spec_l11Within_l1_b])]
 by_cases h5:∀ x ∈ l,2 + s.2.1 ≤ x.1 ∧ x.1 ≤ s.1 - 1
 ·rw [if_pos h5]; exact dT h5
 ·rw [if_neg h5]; exact dF h5
theorem inArea_out (s:DSuper) (l:List (Int × Str)) (hs:SuperV s) (hl:l.length ≤ 1048576):impl_Super_inArea s l = some (@decide (WithinV s l) (Classical.propDecidable _)):=by
 have hs':=hs
 obtain ⟨a1,a2,a3,a4,a5,_⟩:=hs'
 have hA:impl_AreaBlock (s.1,s.2.1,s.2.2.1,s.2.2.2) = some (2 + s.2.1):=by
  unfold impl_AreaBlock
  rw [show (s.1,s.2.1,s.2.2.1,s.2.2.2) = s from rfl,iValidSuper_out]
  simp [hs,wrap_in (show -9223372036854775808 ≤ 2 + s.2.1 by omega) (by omega)]
 unfold impl_Super_inArea
 unfold slices_ContainsFunc_impl_Page_impl_Page__Super_inArea_c1 slices_IndexFunc_impl_Page_impl_Page__Super_inArea_c1 slices_IndexFunc_impl_Page_impl_Page__Super_inArea_c1_l1
 obtain ⟨r,hr,hx⟩:=loop_find l (fun x=>2 + s.2.1 ≤ x.1 ∧ x.1 ≤ s.1 - 1) (fun t=>slices_IndexFunc_impl_Page_impl_Page__Super_inArea_c1_l1_b l s.1 s.2.1 s.2.2.1 s.2.2.2 l.length t) () (fun i x hi hx hp=>by
   have hx':=(List.getElem?_eq_some_iff.1 hx).2
   simp [slices_IndexFunc_impl_Page_impl_Page__Super_inArea_c1_l1_b,impl_Super_inArea_c1,hA,within_out,hi,hx',hp.1,hp.2,wrap_in (show -9223372036854775808 ≤ s.1 - 1 by omega) (by omega),w1 (show i < 9223372036854775807 by omega)]) (fun i x hi hx hp=>by
   have hx':=(List.getElem?_eq_some_iff.1 hx).2
   simp [slices_IndexFunc_impl_Page_impl_Page__Super_inArea_c1_l1_b,impl_Super_inArea_c1,hA,within_out,hi,hx',wrap_in (show -9223372036854775808 ≤ s.1 - 1 by omega) (by omega)]
   omega) (by simp [slices_IndexFunc_impl_Page_impl_Page__Super_inArea_c1_l1_b])
 rw [hr]
 rcases hx with ⟨rfl,h5⟩ | ⟨k,rfl,hk,h5⟩
 ·simp; exact h5
 ·simp [hk]; exact h5
def FitsV (s:DSuper) (n:Nat):Prop:=n ≤ 60 ∧ (n = 0 ∨ 1 + ((2 * n + 63) / 64:Nat) + (n:Int) ≤ s.2.1)
theorem tableBlocks_out (n:Nat) (h:n ≤ 60):impl_tableBlocks n = some (((2 * n + 63) / 64:Nat):Int):=by
 unfold impl_tableBlocks
 rw [wrap_in (n:=2 * (n:Int)) (by omega) (by omega),wrap_in (n:=2 * (n:Int) + 64) (by omega) (by omega),wrap_in (n:=2 * (n:Int) + 64 - 1) (by omega) (by omega)]
 rw [Int.tdiv_eq_ediv_of_nonneg (by omega),wrap_in (by omega) (by omega)]
 congr 1; omega
theorem l12Fits_out (s:DSuper) (n:Nat):spec_l12Fits s n = some (@decide (FitsV s n) (Classical.propDecidable _)):=by
 unfold spec_l12Fits
 by_cases h0:(n:Int) = 0
 ·rw [if_pos h0]; exact dT ⟨by omega,.inl (by omega)⟩
 rw [if_neg h0]
 by_cases h1:(n:Int) ≤ 60
 ·rw [if_pos h1,spec_l11Blocks,show spec_l11Table n = some (((2 * n + 63) / 64:Nat):Int) from tableBlocks_out n (by omega)]
  simp only [obs]
  rw [wrap_in (n:=1 + (((2 * n + 63) / 64:Nat):Int)) (by omega) (by omega),wrap_in (by omega) (by omega)]
  exact dI ⟨fun h=>⟨by omega,.inr h⟩,fun h=>by rcases h.2 with h | h; omega; exact h⟩
 ·rw [if_neg h1]; exact dF fun h=>by have:=h.1; omega
theorem fits_out (s:DSuper) (n:Nat) (hs:SuperV s):impl_Super_fits s n = some (@decide (FitsV s n) (Classical.propDecidable _)):=by
 unfold impl_Super_fits
 obtain ⟨a1,a2,a3,a4,a5,_⟩:=hs
 by_cases h1:(n:Int) ≤ 60
 ·rw [if_pos h1,impl_RecordBlocks,within_out,obs]
  by_cases h0:n = 0
  ·subst h0; rw [if_pos (by simp)]; exact dI ⟨fun _=>⟨by omega,.inl rfl⟩,fun _=>by omega⟩
  rw [if_neg (by simp; omega),tableBlocks_out n (by omega)]
  simp only [obs]
  rw [wrap_in (n:=1 + (((2 * n + 63) / 64:Nat):Int)) (by omega) (by omega),wrap_in (by omega) (by omega)]
  exact dI ⟨fun h=>⟨by omega,.inr h⟩,fun h=>by rcases h.2 with h | h; omega; exact h⟩
 ·rw [if_neg h1]; exact dF fun h=>by have:=h.1; omega
def PagerV (a:DPager):Prop:=DiskV a.1 ∧ ((a.1.2.1.length:Int) > 1 → a.1.2.2.2 = true) ∧ SuperV a.2.1 ∧ a.2.1.1 = (a.1.1.length:Int) ∧ (a.2.1.2.2.1 ≤ a.2.2.1 ∧ a.2.2.1 ≤ 1000000000000) ∧ (0 ≤ a.2.2.2.1 ∧ a.2.2.2.1 ≤ a.2.1.2.1) ∧ PagesV a.2.2.2.2.1 ∧ PagesV a.2.2.2.2.2 ∧ WithinV a.2.1 a.2.2.2.2.1 ∧ WithinV a.2.1 a.2.2.2.2.2 ∧ FitsV a.2.1 a.2.2.2.2.2.length
open Classical in
theorem l12Ok_p1_out (s:DSuper) (v4:List Str) (v5:List (Int × Str)) (v6:Int) (v7:Bool) (c d:Int) (l m:List (Int × Str)) (hs:SuperV s) (hl:l.length ≤ 1048576) (hm:m.length ≤ 1048576) :
  spec_l12Ok_p1 v4 v5 v6 v7 s.1 s.2.1 s.2.2.1 s.2.2.2 c d l m s = some (@decide ((s.2.2.1 ≤ c ∧ c ≤ 1000000000000) ∧ (0 ≤ d ∧ d ≤ s.2.1) ∧ PagesV l ∧ PagesV m ∧ WithinV s l ∧ WithinV s m ∧ FitsV s m.length) (Classical.propDecidable _)):=by
 unfold spec_l12Ok_p1
 simp only [show (s.1,s.2.1,s.2.2.1,s.2.2.2) = s from rfl,l00In_out,l11Pages_out _ hl,l11Pages_out _ hm,l11Within_out s _ hs hl,l11Within_out s _ hs hm,l12Fits_out,obs,deq]
 split
 ·rename_i h; exact dF fun q=>h q.1
 split
 ·rename_i h; exact dF fun q=>h q.2.1
 split
 ·rename_i h; exact dF fun q=>h q.2.2.1
 split
 ·rename_i h; exact dF fun q=>h q.2.2.2.1
 split
 ·rename_i h; exact dF fun q=>h q.2.2.2.2.1
 split
 ·rename_i h; exact dF fun q=>h q.2.2.2.2.2.1
 rename_i h1 h2 h3 h4 h5 h6
 exact dI ⟨fun q=>⟨Classical.not_not.1 h1,Classical.not_not.1 h2,Classical.not_not.1 h3,Classical.not_not.1 h4,Classical.not_not.1 h5,Classical.not_not.1 h6,q⟩,fun q=>q.2.2.2.2.2.2⟩
open Classical in
theorem ValidPager_p1_out (a:DDisk) (s:DSuper) (c d:Int) (l m:List (Int × Str)) (hs:SuperV s) (hl:l.length ≤ 1048576) (hm:m.length ≤ 1048576) :
  impl_ValidPager_p1 (a,s,c,d,l,m) = some (@decide (PagesV l ∧ PagesV m ∧ WithinV s l ∧ WithinV s m ∧ FitsV s m.length) (Classical.propDecidable _)):=by
 unfold impl_ValidPager_p1
 simp only [show (s.1,s.2.1,s.2.2.1,s.2.2.2) = s from rfl,ValidPages_out _ hl,ValidPages_out _ hm,inArea_out s _ hs hl,inArea_out s _ hs hm,fits_out s _ hs,obs,deq]
 by_cases h1:PagesV l
 case neg=>rw [if_neg h1]; exact dF fun q=>h1 q.1
 rw [if_pos h1]
 by_cases h2:PagesV m
 case neg=>rw [if_neg h2]; exact dF fun q=>h2 q.2.1
 rw [if_pos h2]
 by_cases h3:WithinV s l
 case neg=>rw [if_neg h3]; exact dF fun q=>h3 q.2.2.1
 rw [if_pos h3]
 by_cases h4:WithinV s m
 case neg=>rw [if_neg h4]; exact dF fun q=>h4 q.2.2.2.1
 rw [if_pos h4]
 exact dI ⟨fun q=>⟨h1,h2,h3,h4,q⟩,fun q=>q.2.2.2.2⟩
open Classical in
theorem l12Ok_out (a:DPager) (h:PagerIn a 1048576):spec_l12Ok a = some (@decide (PagerV a) (Classical.propDecidable _)):=by
 unfold spec_l12Ok PagerV
 simp only [l09Ok_out,sValidSuper_out,obs,deq,bind_some']
 by_cases h1:DiskV a.1
 case neg=>rw [if_pos h1]; exact dF fun q=>h1 q.1
 rw [if_neg (by simpa using h1)]
 by_cases h3:SuperV a.2.1
 case neg =>
  simp only [h3,not_false_eq_true,if_true]; split
  ·split <;> exact dF fun q=>q.2.2.1
  ·exact dF fun q=>q.2.2.1
 simp only [h3,not_true_eq_false,if_false]
 rw [l12Ok_p1_out _ _ _ _ _ _ _ _ _ h3 h.2.2.1 h.2.2.2]
 split
 ·rename_i h4; split
  ·rename_i h5; exact dF fun q=>h5 (q.2.1 h4)
  ·rename_i h5; split
   ·rename_i h6; exact dF fun q=>h6 q.2.2.2.1
   ·rename_i h6; exact dI ⟨fun q=>⟨h1,fun _=>Classical.not_not.1 h5,trivial,Classical.not_not.1 h6,q⟩,fun q=>q.2.2.2.2⟩
 ·rename_i h4; split
  ·rename_i h6; exact dF fun q=>h6 q.2.2.2.1
  ·rename_i h6; exact dI ⟨fun q=>⟨h1,fun r=>absurd r h4,trivial,Classical.not_not.1 h6,q⟩,fun q=>q.2.2.2.2⟩
open Classical in
theorem ValidPager_out (a:DPager) (h:PagerIn a 1048576):impl_ValidPager a = some (@decide (PagerV a) (Classical.propDecidable _)):=by
 unfold impl_ValidPager PagerV
 simp only [superFits_out,within_out,obs,deq,bind_some']
 by_cases h1:DiskV a.1 ∧ SuperV a.2.1 ∧ a.2.1.1 = (a.1.1.length:Int)
 case neg=>rw [if_pos h1]; exact dF fun q=>h1 ⟨q.1,q.2.2.1,q.2.2.2.1⟩
 rw [if_neg (by simpa using h1),ValidPager_p1_out _ _ _ _ _ _ h1.2.1 h.2.2.1 h.2.2.2]
 by_cases h2:a.2.1.2.2.1 ≤ a.2.2.1 ∧ a.2.2.1 ≤ 1000000000000
 case neg =>
  simp only [h2,not_false_eq_true,if_true]; split
  ·split <;> exact dF fun q=>q.2.2.2.2.1
  ·exact dF fun q=>q.2.2.2.2.1
 simp only [h2,not_true_eq_false,if_false]
 by_cases h3:0 ≤ a.2.2.2.1 ∧ a.2.2.2.1 ≤ a.2.1.2.1
 case neg =>
  simp only [h3,not_false_eq_true,if_true]; split
  ·split <;> exact dF fun q=>q.2.2.2.2.2.1
  ·exact dF fun q=>q.2.2.2.2.2.1
 simp only [h3,not_true_eq_false,if_false]
 split
 ·rename_i h4; split
  ·rename_i h5; exact dF fun q=>h5 (q.2.1 h4)
  ·rename_i h5; exact dI ⟨fun q=>⟨h1.1,fun _=>Classical.not_not.1 h5,h1.2.1,h1.2.2,⟨trivial,trivial⟩,⟨trivial,trivial⟩,q⟩,fun q=>q.2.2.2.2.2.2⟩
 ·rename_i h4; exact dI ⟨fun q=>⟨h1.1,fun r=>absurd r h4,h1.2.1,h1.2.2,⟨trivial,trivial⟩,⟨trivial,trivial⟩,q⟩,fun q=>q.2.2.2.2.2.2⟩
def noPg:DPager:=(([],[],0,false),(0,0,0,0),0,0,[],[])
theorem PagerV.pin {p:DPager} (h:PagerV p):PagerIn p 1000:=by
 obtain ⟨a1,a2,a3,a4,a5,a6,a7,a8,a9,a10,a11⟩:=h
 exact ⟨by have:=a1.2.1; omega,by have:=a1.2.2.1; omega,by have:=a7.1; omega,by have:=a8.1; omega⟩
theorem PagerIn.up {p:DPager} (h:PagerIn p 1000):PagerIn p 1048576:=⟨by have:=h.1; omega,by have:=h.2.1; omega,by have:=h.2.2.1; omega,by have:=h.2.2.2; omega⟩
theorem PagerV.in1 {p:DPager} (h:PagerV p):PagerIn p 1048576:=h.pin.up
theorem l12Own_out (p:DPager) (h:PagerIn p 1048576):spec_l12Own p = some p:=by
 obtain ⟨h1,h2,h3,h4⟩:=h
 unfold spec_l12Own spec_l09Own spec_l12Pages
 rw [appL_nil 16 _ (by unfold maxRow; omega),appL_nil 24 _ (by unfold maxRow; omega),appL_nil 24 _ (by unfold maxRow; omega),appL_nil 24 _ (by unfold maxRow; omega)]
 rfl
theorem clone_out (p:DPager) (h:PagerIn p 1048576):impl_Pager_clone p = some p:=by
 obtain ⟨h1,h2,h3,h4⟩:=h
 unfold impl_Pager_clone impl_Disk_clone slices_Clone_impl_Page_impl_Page_ slices_Clone_impl_Put_impl_Put_ slices_Clone_string_string_
 rw [appL_nil 16 _ (by unfold maxRow; omega),appL_nil 24 _ (by unfold maxRow; omega),appL_nil 24 _ (by unfold maxRow; omega),appL_nil 24 _ (by unfold maxRow; omega)]
 rfl
theorem loop_meas {σ ρ:Type} {f:σ → Option (σ ⊕ ρ)} (P:ρ → Prop) (m:σ → Nat) (I:σ → Prop)
  (h:∀ s,I s → (∃ r,f s = some (.inr r) ∧ P r) ∨ ∃ s',f s = some (.inl s') ∧ I s' ∧ m s' < m s):∀ (n:Nat) (s:σ),m s = n → I s → ∃ r,loopO f s = some r ∧ P r:=by
 intro n
 induction n using Nat.strongRecOn with
 | _ n ih =>
  intro s hm hs
  rcases h s hs with ⟨r,h1,hp⟩ | ⟨s',h1,h2,h3⟩
  ·exact ⟨r,by rw [loopO_unfold,h1]; rfl,hp⟩
  ·obtain ⟨r,hr,hp⟩:=ih (m s') (by omega) s' rfl h2
   exact ⟨r,by rw [loopO_unfold,h1]; exact hr,hp⟩
def pgF (l:List (Int × Str)) (k:Int):Option (Int × Str):=l.find? (fun p=>decide (p.1 = k))
theorem find_at {l:List (Int × Str)} {k:Int} {i:Nat} {x:Int × Str} (hx:l[i]? = some x) (hk:x.1 = k) (hb:∀ j y,j < i → l[j]? = some y → y.1 ≠ k):pgF l k = some x:=by
 unfold pgF
 rw [List.find?_eq_some_iff_append]
 have hi:=(List.getElem?_eq_some_iff.1 hx).1
 have hx':=(List.getElem?_eq_some_iff.1 hx).2
 refine ⟨by simpa using hk,l.take i,l.drop (i + 1),?_,fun a ha=>?_⟩
 ·rw [← hx',List.getElem_cons_drop,List.take_append_drop]
 ·obtain ⟨j,hj,rfl⟩:=List.mem_iff_getElem.1 ha
  simp only [List.length_take] at hj
  have:=hb j l[j] (by omega) (List.getElem?_eq_getElem (by omega))
  simpa using this
theorem find_no {l:List (Int × Str)} {k:Int} (hb:∀ (j:Nat) (y:Int × Str),l[j]? = some y → y.1 ≠ k):pgF l k = none:=by
 unfold pgF
 rw [List.find?_eq_none]
 intro x hx
 obtain ⟨j,hj,rfl⟩:=List.mem_iff_getElem.1 hx
 simpa using hb j _ (List.getElem?_eq_getElem hj)
theorem PagesV.rise {l:List (Int × Str)} (h:PagesV l):∀ (j i:Nat) (x y:Int × Str),i < j → l[i]? = some x → l[j]? = some y → x.1 < y.1:=by
 intro j
 induction j with
 | zero=>intro i x y hij; omega
 | succ j ih =>
  intro i x y hij hx hy
  have hj:=(List.getElem?_eq_some_iff.1 hy).1
  obtain ⟨z,hz⟩:=get_at (l:=l) (i:=j) (by omega)
  have h1:=(h.2 (j + 1) hj y hy).2.2.2 (by omega) z (by simpa using hz)
  by_cases hi:i = j
  ·subst hi; rw [hx] at hz; cases hz; exact h1
  ·have:=ih i x z (by omega) hx hz
   omega
theorem half {i j:Nat} (h:i + j ≤ 4194304):IntKind.i64.wrap (shrV .u64 (IntKind.u64.wrap (IntKind.i64.wrap ((i:Int) + j))) 1) = (((i + j) / 2:Nat):Int):=by
 rw [wrap_in (n:=(i:Int) + j) (by omega) (by omega)]
 have e:IntKind.u64.wrap ((i:Int) + j) = (i:Int) + j:=by simp [IntKind.wrap,IntKind.bits,IntKind.signed]; omega
 rw [e]
 have e2:shrV .u64 ((i:Int) + j) 1 = ((i:Int) + j) / 2:=by
  unfold shrV
  rw [Int.fdiv_eq_ediv_of_nonneg _ (by exact Int.pow_nonneg (by omega))]
  rfl
 rw [e2,wrap_in (by omega) (by omega)]
 omega
theorem pageAt_out (l:List (Int × Str)) (k:Int) (hv:PagesV l) (hl:l.length ≤ 1048576):∃ (i:Nat),i ≤ l.length ∧ (∀ j y,j < i → l[j]? = some y → y.1 < k) ∧ (∀ j y,i ≤ j → l[j]? = some y → k ≤ y.1) ∧
  impl_pageAt l k = some ((i:Int),(pgF l k).isSome) ∧ (∀ x,pgF l k = some x → l[i]? = some x):=by
 unfold impl_pageAt slices_BinarySearchFunc_impl_Page_impl_Page_int64__pageAt_c1 slices_BinarySearchFunc_impl_Page_impl_Page_int64__pageAt_c1_l1
 have hc:∀ x:Int × Str,impl_pageAt_c1 x k = some (if x.1 < k then -1 else if x.1 > k then 1 else 0):=fun x=>by
  simp only [impl_pageAt_c1,cmp_Compare_int64,cmp_isNaN_int64,obs]
  simp
  split
  ·rfl
  ·split <;> rfl
 obtain ⟨r,hr,i,rfl,hi,h1,h2⟩:=loop_meas (f:=fun s=>slices_BinarySearchFunc_impl_Page_impl_Page_int64__pageAt_c1_l1_b l k (l.length:Int) s.1 s.2)
  (fun r=>∃ i:Nat,r = (l,k,(l.length:Int),(i:Int)) ∧ i ≤ l.length ∧ (∀ j y,j < i → l[j]? = some y → y.1 < k) ∧ (∀ j y,i ≤ j → l[j]? = some y → k ≤ y.1))
  (fun s=>(s.2 - s.1).toNat) (fun s=>∃ i j:Nat,s = ((i:Int),(j:Int)) ∧ i ≤ j ∧ j ≤ l.length ∧ (∀ m y,m < i → l[m]? = some y → y.1 < k) ∧ (∀ m y,j ≤ m → l[m]? = some y → k ≤ y.1))
  (fun s hs=>by
   obtain ⟨i,j,rfl,hij,hjl,ha,hb⟩:=hs
   simp only [slices_BinarySearchFunc_impl_Page_impl_Page_int64__pageAt_c1_l1_b]
   by_cases hlt:i < j
   ·rw [if_pos (by omega),half (by omega),if_pos (by omega),Int.toNat_natCast]
    obtain ⟨x,hx⟩:=get_at (l:=l) (i:=(i + j) / 2) (by omega)
    rw [hx,obs,hc,obs]
    right
    by_cases hk:x.1 < k
    ·rw [if_pos hk,if_pos (by omega),w1 (by omega)]
     refine ⟨_,rfl,⟨(i + j) / 2 + 1,j,by simp,by omega,hjl,fun m y hm hy=>?_,hb⟩,by simp only; omega⟩
     by_cases hmi:m = (i + j) / 2
     ·subst hmi; rw [hx] at hy; cases hy; exact hk
     ·have:=hv.rise ((i + j) / 2) m y x (by omega) hy hx
      omega
    ·rw [if_neg (by rw [if_neg hk]; split <;> omega)]
     refine ⟨_,rfl,⟨i,(i + j) / 2,by simp,by omega,by omega,ha,fun m y hm hy=>?_⟩,by simp only; omega⟩
     by_cases hmi:m = (i + j) / 2
     ·subst hmi; rw [hx] at hy; cases hy; omega
     ·have:=hv.rise m ((i + j) / 2) x y (by omega) hx hy
      omega
   ·rw [if_neg (by omega)]
    have:i = j:=by omega
    subst this
    exact .inl ⟨_,rfl,i,rfl,hjl,ha,hb⟩) _ (0,(l.length:Int)) rfl ⟨0,l.length,rfl,by omega,Nat.le_refl _,fun m y hm=>by omega,fun m y hm hy=>by have:=(List.getElem?_eq_some_iff.1 hy).1; omega⟩
 refine ⟨i,hi,h1,h2,?_⟩
 rw [hr,obs]
 simp only
 by_cases hn:i < l.length
 ·obtain ⟨x,hx⟩:=get_at hn
  rw [if_pos (by omega),if_pos (by omega),Int.toNat_natCast,hx,obs,hc,obs,obs]
  have hxk:=h2 i x (Nat.le_refl _) hx
  by_cases hk:x.1 = k
  ·have hf:pgF l k = some x:=find_at hx hk fun j y hj hy=>by have:=h1 j y hj hy; omega
   rw [hf]
   refine ⟨by simp [hk],fun z hz=>hz ▸ rfl⟩
  ·have hf:pgF l k = none:=find_no fun j y hy=>by
    by_cases hj:j < i
    ·have:=h1 j y hj hy; omega
    ·by_cases hji:j = i
     ·subst hji; rw [hx] at hy; cases hy; exact hk
     ·have:=hv.rise j i x y (by omega) hx hy
      omega
   rw [hf]
   refine ⟨?_,fun z hz=>by cases hz⟩
   rw [if_neg (by omega),if_pos (by omega)]
   simp
 ·rw [if_neg (by omega),obs]
  have hf:pgF l k = none:=find_no fun j y hy=>by
   have hjl:=(List.getElem?_eq_some_iff.1 hy).1
   have:=h1 j y (by omega) hy; omega
  rw [hf]
  exact ⟨rfl,fun z hz=>by cases hz⟩
def mrg:List (Int × Str) → List (Int × Str) → List (Int × Str)
 | a,[]=>a
 | [],y::b=>y::b
 | x::a,y::b=>if x.1 < y.1 then x::mrg a (y::b) else if x.1 = y.1 then y::mrg a b else y::mrg (x::a) b
termination_by a b=>a.length + b.length
theorem mrg_nil (a:List (Int × Str)):mrg a [] = a:=by cases a <;> simp [mrg]
theorem nil_mrg (b:List (Int × Str)):mrg [] b = b:=by cases b <;> simp [mrg]
theorem mrg_cons (x y:Int × Str) (a b:List (Int × Str)):mrg (x::a) (y::b) = if x.1 < y.1 then x::mrg a (y::b) else if x.1 = y.1 then y::mrg a b else y::mrg (x::a) b:=by rw [mrg]
theorem dropG {α:Type} {l:List α} {i:Nat} {x:α} (h:l[i]? = some x):l.drop i = x::l.drop (i + 1):=by
 have hi:=(List.getElem?_eq_some_iff.1 h).1
 have hx:=(List.getElem?_eq_some_iff.1 h).2
 rw [← hx,List.getElem_cons_drop]
theorem happ24 (l:List (Int × Str)) (x:Int × Str) (h:l.length ≤ 4194304):appL 24 l (lit [x]) = some (l ++ [x]):=by unfold appL lit; rw [if_pos (by simp [maxRow]; omega)]
theorem l11Merge_out (a b:List (Int × Str)) (ha:a.length ≤ 1048576) (hb:b.length ≤ 1048576):spec_l11Merge a b = some (mrg a b):=by
 unfold spec_l11Merge spec_l11Merge_l1
 obtain ⟨r,hr,rfl⟩:=loop_meas (f:=fun s=>spec_l11Merge_l1_b s.1 s.2.1 s.2.2.1 s.2.2.2.1 s.2.2.2.2) (fun r=>r = mrg a b) (fun s=>(a.length - s.2.2.2.1.toNat) + (b.length - s.2.2.2.2.toNat))
  (fun s=>∃ (o:List (Int × Str)) (i j:Nat),s = (a,b,o,(i:Int),(j:Int)) ∧ i ≤ a.length ∧ j ≤ b.length ∧ o.length ≤ i + j ∧ o ++ mrg (a.drop i) (b.drop j) = mrg a b)
  (fun s hs=>by
   obtain ⟨o,i,j,rfl,hi,hj,ho,hm⟩:=hs
   simp only [spec_l11Merge_l1_b]
   -- the three ways to go on
   have goA:∀ x,a[i]? = some x → i < a.length → mrg (a.drop i) (b.drop j) = x::mrg (a.drop (i + 1)) (b.drop j) → spec_l11Merge_p3 a b o (i:Int) (j:Int) = some (a,b,o ++ [x],((i + 1:Nat):Int),(j:Int)) ∧
     (o ++ [x]).length ≤ (i + 1) + j ∧ (o ++ [x]) ++ mrg (a.drop (i + 1)) (b.drop j) = mrg a b:=fun x hx hia he=>by
    refine ⟨?_,by simp; omega,by rw [← hm,he]; simp⟩
    unfold spec_l11Merge_p3
    rw [if_pos (by omega),Int.toNat_natCast,hx,obs,happ24 _ _ (by omega),obs,w1 (by omega)]; rfl
   have goB:∀ (i':Nat) y,b[j]? = some y → j < b.length → i' ≤ i + 1 → mrg (a.drop i) (b.drop j) = y::mrg (a.drop i') (b.drop (j + 1)) → i ≤ i' → spec_l11Merge_p5 a b o (i':Int) (j:Int) = some (a,b,o ++ [y],(i':Int),((j + 1:Nat):Int)) ∧
     (o ++ [y]).length ≤ i' + (j + 1) ∧ (o ++ [y]) ++ mrg (a.drop i') (b.drop (j + 1)) = mrg a b:=fun i' y hy hjb hi' he hii=>by
    refine ⟨?_,by simp; omega,by rw [← hm,he]; simp⟩
    unfold spec_l11Merge_p5
    rw [if_pos (by omega),Int.toNat_natCast,hy,obs,happ24 _ _ (by omega),obs,w1 (by omega)]; rfl
   have p4:∀ y,b[j]? = some y → j < b.length → (∀ x,a[i]? = some x → ¬ x.1 < y.1) → ∃ (o':List (Int × Str)) (i':Nat),spec_l11Merge_p4 a b o (i:Int) (j:Int) = some (a,b,o',(i':Int),((j + 1:Nat):Int)) ∧ i ≤ i' ∧ i' ≤ a.length ∧ o'.length ≤ i' + (j + 1) ∧
     o' ++ mrg (a.drop i') (b.drop (j + 1)) = mrg a b:=fun y hy hjb hx0=>by
    unfold spec_l11Merge_p4
    by_cases hia:i < a.length
    ·obtain ⟨x,hx⟩:=get_at hia
     have hlt:=hx0 x hx
     rw [if_pos (by omega),if_pos (by omega),Int.toNat_natCast,hx,obs,if_pos (by omega),Int.toNat_natCast,hy,obs]
     by_cases he:x.1 = y.1
     ·rw [if_pos he,w1 (by omega)]
      obtain ⟨q1,q2,q3⟩:=goB (i + 1) y hy hjb (by omega) (by rw [dropG hx,dropG hy,mrg_cons,if_neg hlt,if_pos he]) (by omega)
      rw [show ((i:Int) + 1) = ((i + 1:Nat):Int) by omega,q1]
      exact ⟨_,i + 1,rfl,by omega,by omega,q2,q3⟩
     ·rw [if_neg he]
      obtain ⟨q1,q2,q3⟩:=goB i y hy hjb (by omega) (by rw [dropG hx,dropG hy,mrg_cons,if_neg hlt,if_neg he]) (by omega)
      rw [q1]
      exact ⟨_,i,rfl,by omega,by omega,q2,q3⟩
    ·rw [if_neg (by omega)]
     have hd:a.drop i = []:=List.drop_eq_nil_of_le (by omega)
     obtain ⟨q1,q2,q3⟩:=goB i y hy hjb (by omega) (by rw [hd,dropG hy,nil_mrg,nil_mrg]) (by omega)
     rw [q1]
     exact ⟨_,i,rfl,by omega,by omega,q2,q3⟩
   have p2:i < a.length ∨ j < b.length → ∃ (o':List (Int × Str)) (i' j':Nat),spec_l11Merge_p2 a b o (i:Int) (j:Int) = some (a,b,o',(i':Int),(j':Int)) ∧ i' ≤ a.length ∧ j' ≤ b.length ∧ o'.length ≤ i' + j' ∧ (a.length - i') + (b.length - j') < (a.length - i) + (b.length - j) ∧
     o' ++ mrg (a.drop i') (b.drop j') = mrg a b:=fun hor=>by
    unfold spec_l11Merge_p2
    by_cases hjb:j = b.length
    ·obtain ⟨x,hx⟩:=get_at (l:=a) (i:=i) (by omega)
     obtain ⟨q1,q2,q3⟩:=goA x hx (by omega) (by rw [List.drop_eq_nil_of_le (by omega:b.length ≤ j),mrg_nil,mrg_nil,dropG hx])
     rw [if_pos (by omega),q1]
     exact ⟨_,i + 1,j,rfl,by omega,hj,q2,by omega,q3⟩
    ·obtain ⟨y,hy⟩:=get_at (l:=b) (i:=j) (by omega)
     rw [if_neg (by omega)]
     by_cases hia:i < a.length
     ·obtain ⟨x,hx⟩:=get_at hia
      rw [if_pos (by omega),if_pos (by omega),Int.toNat_natCast,hx,obs,if_pos (by omega),Int.toNat_natCast,hy,obs]
      by_cases hlt:x.1 < y.1
      ·obtain ⟨q1,q2,q3⟩:=goA x hx hia (by rw [dropG hx,dropG hy,mrg_cons,if_pos hlt])
       rw [if_pos hlt,q1]
       exact ⟨_,i + 1,j,rfl,by omega,hj,q2,by omega,q3⟩
      ·obtain ⟨o',i',q1,q2,q3,q4,q5⟩:=p4 y hy (by omega) (fun z hz=>by rw [hx] at hz; cases hz; exact hlt)
       rw [if_neg hlt,q1]
       exact ⟨o',i',j + 1,rfl,q3,by omega,q4,by omega,q5⟩
     ·obtain ⟨o',i',q1,q2,q3,q4,q5⟩:=p4 y hy (by omega) (fun z hz=>by have:=(List.getElem?_eq_some_iff.1 hz).1; omega)
      rw [if_neg (by omega),q1]
      exact ⟨o',i',j + 1,rfl,q3,by omega,q4,by omega,q5⟩
   by_cases hia:i < a.length
   ·obtain ⟨o',i',j',q1,q2,q3,q4,q5,q6⟩:=p2 (.inl hia)
    rw [if_pos (by omega),q1]
    exact .inr ⟨_,rfl,⟨o',i',j',rfl,q2,q3,q4,q6⟩,by simp only [Int.toNat_natCast]; exact q5⟩
   ·rw [if_neg (by omega)]
    by_cases hjb:j < b.length
    ·obtain ⟨o',i',j',q1,q2,q3,q4,q5,q6⟩:=p2 (.inr hjb)
     rw [if_pos (by omega),q1]
     exact .inr ⟨_,rfl,⟨o',i',j',rfl,q2,q3,q4,q6⟩,by simp only [Int.toNat_natCast]; exact q5⟩
    ·rw [if_neg (by omega)]
     refine .inl ⟨_,rfl,?_⟩
     rw [List.drop_eq_nil_of_le (by omega),List.drop_eq_nil_of_le (by omega),mrg_nil,List.append_nil] at hm
     exact hm) _ (a,b,[],0,0) rfl ⟨[],0,0,rfl,Nat.zero_le _,Nat.zero_le _,by simp,by simp⟩
 rw [hr,obs]
def setL:List (Int × Str) → Int → Str → List (Int × Str)
 | [],k,d=>[(k,d)]
 | x::l,k,d=>if x.1 < k then x::setL l k d else if x.1 = k then (k,d)::l else (k,d)::x::l
theorem mrg_one (k:Int) (d:Str):∀ l:List (Int × Str),mrg l [(k,d)] = setL l k d
 | []=>by rw [nil_mrg]; rfl
 | x::l=>by rw [mrg_cons,mrg_nil,mrg_nil,mrg_one k d l]; rfl
theorem pagesV_iff (l:List (Int × Str)):PagesV l ↔ l.length ≤ 256 ∧ (∀ x ∈ l,0 ≤ x.1 ∧ x.1 ≤ 255 ∧ x.2.length = 64) ∧ l.Pairwise (fun x y=>x.1 < y.1):=by
 constructor
 ·intro h
  refine ⟨h.1,fun x hx=>?_,?_⟩
  ·obtain ⟨i,hi,rfl⟩:=List.mem_iff_getElem.1 hx
   have:=h.2 i hi _ (List.getElem?_eq_getElem hi)
   exact ⟨this.1,this.2.1,this.2.2.1⟩
  ·rw [List.pairwise_iff_getElem]
   intro i j hi hj hij
   exact h.rise j i _ _ hij (List.getElem?_eq_getElem hi) (List.getElem?_eq_getElem hj)
 ·rintro ⟨h1,h2,h3⟩
  refine ⟨h1,fun i hi x hx=>?_⟩
  obtain ⟨b1,b2,b3⟩:=h2 x (List.mem_of_getElem? hx)
  refine ⟨b1,b2,b3,fun hi0 y hy=>?_⟩
  rw [List.pairwise_iff_getElem] at h3
  have hx':=(List.getElem?_eq_some_iff.1 hx).2
  have hy':=(List.getElem?_eq_some_iff.1 hy).2
  have:=h3 (i - 1) i (by omega) hi (by omega)
  rw [hx',hy'] at this
  exact this
theorem mem_setL (k:Int) (d:Str):∀ (l:List (Int × Str)) (x:Int × Str),x ∈ setL l k d → x = (k,d) ∨ x ∈ l
 | [],x,h=>by simpa [setL] using h
 | y::l,x,h=>by
  simp only [setL] at h
  split at h
  ·rcases List.mem_cons.1 h with h | h
   ·exact .inr (by simp [h])
   ·rcases mem_setL k d l x h with h | h
    ·exact .inl h
    ·exact .inr (by simp [h])
  ·split at h
   ·rcases List.mem_cons.1 h with h | h
    ·exact .inl h
    ·exact .inr (by simp [h])
   ·rcases List.mem_cons.1 h with h | h
    ·exact .inl h
    ·exact .inr h
theorem setL_rise (k:Int) (d:Str):∀ l:List (Int × Str),l.Pairwise (fun x y=>x.1 < y.1) → (setL l k d).Pairwise (fun x y=>x.1 < y.1)
 | [],_=>by simp [setL]
 | y::l,h=>by
  obtain ⟨h1,h2⟩:=List.pairwise_cons.1 h
  simp only [setL]
  split
  ·rename_i hlt
   refine List.pairwise_cons.2 ⟨fun x hx=>?_,setL_rise k d l h2⟩
   rcases mem_setL k d l x hx with rfl | hx
   ·exact hlt
   ·exact h1 x hx
  ·split
   ·rename_i hlt he
    exact List.pairwise_cons.2 ⟨fun x hx=>by have:=h1 x hx; simp only; omega,h2⟩
   ·rename_i hlt he
    refine List.pairwise_cons.2 ⟨fun x hx=>?_,h⟩
    rcases List.mem_cons.1 hx with rfl | hx
    ·simp only; omega
    ·have:=h1 x hx; simp only; omega
theorem setL_pagesV {l:List (Int × Str)} {k:Int} {d:Str} (h:PagesV l) (h0:0 ≤ k) (h1:k ≤ 255) (hd:d.length = 64) (hn:(setL l k d).length ≤ 256):PagesV (setL l k d):=by
 obtain ⟨g1,g2,g3⟩:=(pagesV_iff l).1 h
 refine (pagesV_iff _).2 ⟨hn,fun x hx=>?_,setL_rise k d l g3⟩
 rcases mem_setL k d l x hx with rfl | hx
 ·exact ⟨h0,h1,hd⟩
 ·exact g2 x hx
def setP (p:DPager) (k:Int) (d:Str):DPager:=(p.1,p.2.1,p.2.2.1,p.2.2.2.1,p.2.2.2.2.1,setL p.2.2.2.2.2 k d)
def SetV (p:DPager) (k:Int) (d:Str):Prop:=FitsV p.2.1 (setL p.2.2.2.2.2 k d).length
abbrev outPgB (p:DPager) (c:Bool):DPager × Bool:=(p,c)
open Classical in
theorem l12Set_out (p:DPager) (k:Int) (d:Str) (hin:PagerIn p 1048576) :
  spec_l12Set_oc8 p k d = some (if SetV p k d then outPgB (setP p k d) true else outPgB p false):=by
 unfold spec_l12Set_oc8
 rw [lit_eq,l11Merge_out _ _ hin.2.2.2 (by simp),obs,mrg_one]
 have:=l12Fits_out p.2.1 (setL p.2.2.2.2.2 k d).length
 rw [this,obs]
 simp only [deq]
 by_cases h:SetV p k d
 ·rw [if_pos h,if_neg (by unfold SetV at h; simpa using h)]; rfl
 ·rw [if_neg h,if_pos (by unfold SetV at h; simpa using h)]
theorem setP_valid (p:DPager) (k:Int) (d:Str) (hp:PagerV p) (h0:2 + p.2.1.2.1 ≤ k) (h1:k ≤ p.2.1.1 - 1) (hd:d.length = 64) (hs:SetV p k d):PagerV (setP p k d):=by
 obtain ⟨a1,a2,a3,a4,a5,a6,a7,a8,a9,a10,a11⟩:=hp
 refine ⟨a1,a2,a3,a4,a5,a6,a7,?_,a9,?_,hs⟩
 ·have hsn:=hs.1
  have h3:0 ≤ p.2.1.2.1 ∧ p.2.1.1 ≤ 256:=by
   unfold SuperV at a3; omega
  exact setL_pagesV a8 (by omega) (by omega) hd (by omega)
 ·intro x hx
  rcases mem_setL k d _ x hx with rfl | hx
  ·exact ⟨h0,h1⟩
  ·exact a10 x hx
theorem loop_back {α ρ:Type} (p:α → Bool) (f:Int → Option (Int ⊕ ρ)) (rN:ρ) (rF:α → ρ) (h3:f (-1) = some (.inr rN)):∀ (m:Nat) (l:List α),l.length = m →
  (∀ (i:Nat) x,l[i]? = some x → p x = false → f (i:Int) = some (.inl ((i:Int) - 1))) →
  (∀ (i:Nat) x,l[i]? = some x → p x = true → f (i:Int) = some (.inr (rF x))) →
  loopO f ((m:Int) - 1) = some (match l.reverse.find? p with | some x=>rF x | none=>rN):=by
 intro m
 induction m with
 | zero =>
  intro l hl h1 h2
  obtain rfl:=List.eq_nil_of_length_eq_zero hl
  rw [loopO_unfold,show ((0:Nat):Int) - 1 = -1 by omega,h3]; rfl
 | succ m ih =>
  intro l hl h1 h2
  obtain ⟨l',x,rfl⟩:∃ l' x,l = l' ++ [x]:=by
   have:=List.dropLast_concat_getLast (l:=l) (by intro h; subst h; simp at hl)
   exact ⟨_,_,this.symm⟩
  have hl':l'.length = m:=by simpa using hl
  have hx:(l' ++ [x])[m]? = some x:=by rw [← hl']; simp
  rw [loopO_unfold,show ((m + 1:Nat):Int) - 1 = (m:Int) by omega,List.reverse_append]
  simp only [List.reverse_cons,List.reverse_nil,List.nil_append,List.cons_append,List.find?_cons]
  cases hp:p x with
  | true=>rw [h2 m x hx hp]; rfl
  | false =>
   rw [h1 m x hx hp]
   simp only [obs,Sum.elim_inl]
   refine ih l' hl' (fun i y hy hpy=>h1 i y ?_ hpy) (fun i y hy hpy=>h2 i y ?_ hpy)
   ·rw [List.getElem?_append_left (List.getElem?_eq_some_iff.1 hy).1]; exact hy
   ·rw [List.getElem?_append_left (List.getElem?_eq_some_iff.1 hy).1]; exact hy
theorem l09Read_out (d:DDisk) (k:Int) (h:d.2.1.length ≤ 1048576):spec_l09Read d k = readD d k:=by
 unfold spec_l09Read spec_l09Read_l1 readD
 rw [wrap_in (by omega) (by omega),if_pos (by omega)]
 rw [loop_back (fun p:Int × Str=>decide (p.1 = k)) (fun s=>spec_l09Read_l1_b d.1 d.2.1 d.2.2.1 d.2.2.2 k s) (.inl (d.1,d.2.1,d.2.2.1,d.2.2.2,k)) (fun x=>.inr x.2) (by simp [spec_l09Read_l1_b]) d.2.1.length d.2.1 rfl (fun i x hx hp=>?_) (fun i x hx hp=>?_)]
 ·rw [obs]
  cases hf:d.2.1.reverse.find? (fun p=>decide (p.1 = k)) with
  | some p=>rfl
  | none =>
   simp only [Sum.elim_inl]
   split
   ·cases d.1[k.toNat]? <;> rfl
   ·rfl
 ·have hi:=(List.getElem?_eq_some_iff.1 hx).1
  have hp':¬ x.1 = k:=by simpa using hp
  simp only [spec_l09Read_l1_b]
  rw [if_pos (by omega),if_pos (by omega),Int.toNat_natCast,hx,obs,if_neg hp',wrap_in (by omega) (by omega)]
 ·have hi:=(List.getElem?_eq_some_iff.1 hx).1
  have hp':x.1 = k:=by simpa using hp
  simp only [spec_l09Read_l1_b]
  rw [if_pos (by omega),if_pos (by omega),Int.toNat_natCast,hx,obs,if_pos hp',if_pos (by omega),obs]
def rdD (d:DDisk) (k:Int):Str:=match d.2.1.reverse.find? (fun p=>decide (p.1 = k)) with
 | some p=>p.2
 | none=>d.1.getD k.toNat []
theorem readD_out (d:DDisk) (k:Int) (hd:DiskV d) (h0:0 ≤ k) (h1:k < (d.1.length:Int)):readD d k = some (rdD d k) ∧ (rdD d k).length = 64:=by
 obtain ⟨a1,a2,a3,a4,a5,a6,a7⟩:=hd
 unfold readD rdD
 rw [if_pos (by omega)]
 cases hf:d.2.1.reverse.find? (fun p=>decide (p.1 = k)) with
 | some p =>
  exact ⟨rfl,(a7 p (by have:=List.mem_of_find?_eq_some hf; simpa using this)).2.2⟩
 | none =>
  simp only
  rw [if_pos h0]
  obtain ⟨x,hx⟩:=get_at (l:=d.1) (i:=k.toNat) (by omega)
  rw [List.getD_eq_getElem?_getD,hx]
  exact ⟨rfl,a6 x (List.mem_of_getElem? hx)⟩
def comP (p:DPager) (k:Int):Str:=match pgF p.2.2.2.2.1 k with | some x=>x.2 | none=>rdD p.1 k
theorem committed_out (p:DPager) (k:Int) (hp:PagerV p) (hin:PagerIn p 1048576) (h0:0 ≤ k) (h1:k < (p.1.1.length:Int)):impl_Pager_committed p k = some (comP p k):=by
 unfold impl_Pager_committed impl_Disk_read comP
 obtain ⟨i,hi,a1,a2,a3,a4⟩:=pageAt_out p.2.2.2.2.1 k hp.2.2.2.2.2.2.1 hin.2.2.1
 rw [a3,obs]
 cases hf:pgF p.2.2.2.2.1 k with
 | some x=>simp [a4 x hf]
 | none=>simp [(readD_out p.1 k hp.1 h0 h1).1]
def areaK (p:DPager):Int:=2 + p.2.1.2.1
theorem area_in {p:DPager} (hp:PagerV p):10 ≤ areaK p ∧ areaK p < (p.1.1.length:Int) - 1 ∧ (p.1.1.length:Int) ≤ 256 ∧ p.2.1.1 = (p.1.1.length:Int):=by
 have h:=hp.2.2.1
 obtain ⟨a1,a2,a3,a4,a5,_⟩:=h
 have:=hp.2.2.2.1
 unfold areaK
 omega
theorem l10Area_out (p:DPager) (hp:PagerV p):spec_l10Area p.2.1 = some (areaK p):=by
 have:=area_in hp
 unfold spec_l10Area
 rw [wrap_in (by unfold areaK at this; omega) (by unfold areaK at this; omega)]; rfl
theorem iArea_out (p:DPager) (hp:PagerV p):impl_Pager_area p = some (areaK p):=by
 have:=area_in hp
 unfold impl_Pager_area
 rw [wrap_in (by unfold areaK at this; omega) (by unfold areaK at this; omega)]; rfl
theorem l01Pad_out (s:Str) (n:Nat) (hs:s.length ≤ n) (h:n ≤ 1048576):spec_l01Pad s n = some (s ++ List.replicate (n - s.length) 0):=by
 unfold spec_l01Pad
 by_cases hc:(s.length:Int) ≥ n
 ·rw [if_pos hc,show n - s.length = 0 by omega]; simp
 ·rw [if_neg hc,wrap_in (by omega) (by omega),show (n:Int) - (s.length:Int) = ((n - s.length:Nat):Int) by omega,mkL_ok 1 _ _ (by unfold maxRow; omega) (by unfold maxRow; omega),obs,if_pos (by simp; omega)]
  simp
theorem repeatL_zero (c:Nat):Lib.repeatL [0] c = List.replicate c 0:=by
 induction c with
 | zero=>rfl
 | succ c ih=>simp [Lib.repeatL,ih,List.replicate_succ]
theorem zeros_out (n:Nat) (h:n ≤ 1048576):impl_zeros n = some (List.replicate n 0):=by
 unfold impl_zeros strings_Repeat repS
 rw [if_pos ⟨by omega,by omega,by simp; omega⟩,obs,Int.toNat_natCast,repeatL_zero]
theorem padded_out (s:Str) (n:Nat) (hs:s.length ≤ n) (h:n ≤ 1048576):impl_padded s n = some (s ++ List.replicate (n - s.length) 0):=by
 unfold impl_padded
 rw [wrap_in (by omega) (by omega),show (n:Int) - (s.length:Int) = ((n - s.length:Nat):Int) by omega,zeros_out _ (by omega),obs,if_pos (by simp; omega)]
theorem loop_build {β:Type} (n:Nat) (g:Nat → β) (f:List β × Int → Option ((List β × Int) ⊕ List β))
  (h1:∀ i:Nat,i < n → f ((List.range i).map g,(i:Int)) = some (.inl ((List.range (i + 1)).map g,(i:Int) + 1)))
  (h2:f ((List.range n).map g,(n:Int)) = some (.inr ((List.range n).map g))):loopO f ([],0) = some ((List.range n).map g):=by
 refine loop_some n (fun i s=>s = ((List.range i).map g,(i:Int))) (fun i s hi hs=>?_) n 0 _ (by omega) rfl
 subst hs
 by_cases hn:i < n
 ·exact .inr ⟨hn,_,h1 i hn,by simp⟩
 ·have:i = n:=by omega
  subst this; exact .inl h2
theorem loop_fill {β:Type} (n:Nat) (g:Nat → β) (f:List β × Int → Option ((List β × Int) ⊕ List β)) (m:List β) (hm:m.length = n)
  (h1:∀ (m:List β) (i:Nat),i < n → m.length = n → f (m,(i:Int)) = some (.inl (m.set i (g i),(i:Int) + 1)))
  (h2:∀ m:List β,m.length = n → f (m,(n:Int)) = some (.inr m)):loopO f (m,0) = some ((List.range n).map g):=by
 refine loop_some n (fun i s=>s.2 = (i:Int) ∧ s.1.length = n ∧ ∀ j,j < i → s.1[j]? = some (g j)) (fun i s hi hs=>?_) n 0 _ (by omega) ⟨rfl,hm,fun j hj=>by omega⟩
 obtain ⟨m,k⟩:=s
 obtain ⟨rfl,hml,hall⟩:=hs
 simp only at hml hall ⊢
 by_cases hn:i < n
 ·refine .inr ⟨hn,_,h1 m i hn hml,by simp,by simp [hml],fun j hj=>?_⟩
  by_cases hji:j = i
  ·subst hji; simp only; rw [List.getElem?_set_self (by omega)]
  ·simp only; rw [List.getElem?_set_ne (by omega)]; exact hall j (by omega)
 ·have:i = n:=by omega
  subst this
  refine .inl ?_
  rw [h2 m hml]
  congr 2
  apply List.ext_getElem?
  intro j
  by_cases hj:j < i
  ·rw [hall j hj]; simp [hj]
  ·rw [List.getElem?_eq_none (by omega),List.getElem?_eq_none (by simp; omega)]
theorem u8_wrap_eq (y:Int):IntKind.u8.wrap y = y % 256:=by simp [IntKind.wrap,IntKind.bits,IntKind.signed]
theorem u64_wrap_in {y:Int} (h:0 ≤ y) (h':y < 18446744073709551616):IntKind.u64.wrap y = y:=by simp [IntKind.wrap,IntKind.bits,IntKind.signed]; omega
theorem and255 (y:Int) (h:-9223372036854775808 ≤ y) (h':y ≤ 9223372036854775807):bitV .and .i64 y 255 = y % 256:=by
 have e:((BitVec.ofInt 64 y &&& BitVec.ofInt 64 255).toNat:Int) = y % 256:=by
  rw [BitVec.toNat_and,BitVec.toNat_ofInt,BitVec.toNat_ofInt]
  have:((255:Int) % ((2 ^ 64:Nat):Int)).toNat = 2 ^ 8 - 1:=by decide
  rw [this,Nat.and_two_pow_sub_one_eq_mod]
  omega
 show (bitsI .and .i64 y 255).getD 0 = _
 show IntKind.i64.wrap ((BitVec.ofInt 64 y &&& BitVec.ofInt 64 255).toNat:Int) = _
 rw [e]
 exact wrap_in (by omega) (by omega)
def byB (n:Int) (j:Nat):Bt:=⟨UInt8.ofNat ((shrV .i64 n (8 * (j:Int))) % 256).toNat⟩
def leB (n:Int) (k:Nat):Str:=(List.range k).map fun j=>(byB n j).v
@[simp] theorem leB_length (n:Int) (k:Nat):(leB n k).length = k:=by simp [leB]
theorem leB_map (n:Int) (k:Nat):((List.range k).map (byB n)).map Bt.v = leB n k:=by simp [leB,Function.comp_def]
theorem shr_in {n:Int} (c:Int) (h:-9223372036854775808 ≤ n) (h':n ≤ 9223372036854775807):-9223372036854775808 ≤ shrV .i64 n c ∧ shrV .i64 n c ≤ 9223372036854775807:=by
 unfold shrV
 rw [Int.fdiv_eq_ediv_of_nonneg _ (by exact Int.pow_nonneg (by omega))]
 have hp:(0:Int) < 2 ^ (min c.toNat (IntKind.bits .i64)):=Int.pow_pos (by omega)
 generalize (2:Int) ^ (min c.toNat (IntKind.bits .i64)) = p at hp
 constructor
 ·rcases Int.lt_or_le n 0 with h0 | h0
  ·exact Int.le_ediv_of_mul_le hp (by omega)
  ·exact Int.le_trans (by omega) (Int.ediv_nonneg h0 (by omega))
 ·rcases Int.lt_or_le n 0 with h0 | h0
  ·have:=Int.ediv_neg_of_neg_of_pos h0 hp
   omega
  ·exact Int.le_trans (Int.ediv_le_self _ h0) h'
theorem l01Bytes_out (n:Int) (k:Nat) (hk:k ≤ 8) (h:-9223372036854775808 ≤ n) (h':n ≤ 9223372036854775807):spec_l01Bytes n k = some (leB n k):=by
 unfold spec_l01Bytes spec_l01Bytes_l1
 rw [loop_build k (byB n) (fun s=>spec_l01Bytes_l1_b n k s.1 s.2) (fun i hi=>?_) (by simp [spec_l01Bytes_l1_b])]
 ·rw [obs,leB_map]
 ·simp only [spec_l01Bytes_l1_b]
  rw [if_pos (by omega),u64_wrap_in (y:=(i:Int)) (by omega) (by omega),u64_wrap_in (by omega) (by omega),if_neg (by omega)]
  have hs:=shr_in (8 * (i:Int)) h h'
  rw [and255 _ hs.1 hs.2,u8_wrap_eq,show (shrV .i64 n (8 * (i:Int))) % 256 % 256 = (shrV .i64 n (8 * (i:Int))) % 256 by omega]
  unfold appL
  rw [if_pos (by simp [lit,maxRow]; omega),obs,w1 (by omega)]
  simp [List.range_succ,lit,byB]
theorem putBytes_out (n:Int) (k:Nat) (hk:k ≤ 8):impl_putBytes n k = some (leB n k):=by
 unfold impl_putBytes impl_putBytes_l1
 rw [mkL_ok 1 _ _ (by unfold maxRow; omega) (by unfold maxRow; omega),obs]
 rw [loop_fill k (byB n) (fun s=>impl_putBytes_l1_b n _ s.1 s.2) _ (by simp) (fun m i hi hm=>?_) (fun m hm=>?_)]
 ·rw [obs,leB_map]
 ·simp only [impl_putBytes_l1_b]
  obtain ⟨x,hx⟩:=get_at (l:=m) (by omega:i < m.length)
  rw [List.length_replicate,if_pos (by omega),wrap_in (n:=8 * (i:Int)) (by omega) (by omega),if_neg (by omega),if_pos (by omega),Int.toNat_natCast,hx,obs,w1 (by omega),u8_wrap_eq]
  rfl
 ·simp only [impl_putBytes_l1_b]
  rw [List.length_replicate,if_neg (by omega)]
def halfS (s:DSuper):Str:=[65,82,82,83] ++ leB 1 1 ++ leB s.1 2 ++ leB s.2.1 2 ++ leB s.2.2.1 8 ++ leB s.2.2.2 8 ++ List.replicate 7 0
def encS (s:DSuper):Str:=halfS s ++ halfS s
theorem halfS_length (s:DSuper):(halfS s).length = 32:=by simp [halfS]
theorem encS_length (s:DSuper):(encS s).length = 64:=by simp [encS,halfS_length]
def SIn (s:DSuper):Prop:=(-9223372036854775808 ≤ s.1 ∧ s.1 ≤ 9223372036854775807) ∧ (-9223372036854775808 ≤ s.2.1 ∧ s.2.1 ≤ 9223372036854775807) ∧ (-9223372036854775808 ≤ s.2.2.1 ∧ s.2.2.1 ≤ 9223372036854775807) ∧ (-9223372036854775808 ≤ s.2.2.2 ∧ s.2.2.2 ≤ 9223372036854775807)
theorem l10Encode_out (s:DSuper) (h:SIn s):spec_l10Encode s = some (encS s):=by
 obtain ⟨⟨a,b⟩,⟨c,d⟩,⟨e,f⟩,g,i⟩:=h
 unfold spec_l10Encode
 have k1:spec_l01Bytes 1 1 = some (leB 1 1):=l01Bytes_out 1 1 (by omega) (by omega) (by omega)
 have k2:spec_l01Bytes s.1 2 = some (leB s.1 2):=l01Bytes_out s.1 2 (by omega) a b
 have k3:spec_l01Bytes s.2.1 2 = some (leB s.2.1 2):=l01Bytes_out s.2.1 2 (by omega) c d
 have k4:spec_l01Bytes s.2.2.1 8 = some (leB s.2.2.1 8):=l01Bytes_out s.2.2.1 8 (by omega) e f
 have k5:spec_l01Bytes s.2.2.2 8 = some (leB s.2.2.2 8):=l01Bytes_out s.2.2.2 8 (by omega) g i
 rw [k1,obs,if_pos (by simp),k2,obs,if_pos (by simp),k3,obs,if_pos (by simp),k4,obs,if_pos (by simp),k5,obs]
 have k6:spec_l01Pad ([65,82,82,83] ++ leB 1 1 ++ leB s.1 2 ++ leB s.2.1 2 ++ leB s.2.2.1 8 ++ leB s.2.2.2 8) 32 = some (halfS s):=l01Pad_out ([65,82,82,83] ++ leB 1 1 ++ leB s.1 2 ++ leB s.2.1 2 ++ leB s.2.2.1 8 ++ leB s.2.2.2 8) 32 (by simp) (by omega)
 rw [if_pos (by simp),k6,obs,if_pos (by simp [halfS_length])]
 rfl
theorem SuperV.sin {s:DSuper} (h:SuperV s):SIn s:=by
 obtain ⟨a1,a2,a3,a4,a5,a6,a7,a8,a9⟩:=h
 exact ⟨⟨by omega,by omega⟩,⟨by omega,by omega⟩,⟨by omega,by omega⟩,by omega,by omega⟩
theorem encode_out (s:DSuper):impl_Super_encode s = some (encS s):=by
 unfold impl_Super_encode
 have k1:impl_putBytes 1 1 = some (leB 1 1):=putBytes_out 1 1 (by omega)
 have k2:impl_putBytes s.1 2 = some (leB s.1 2):=putBytes_out s.1 2 (by omega)
 have k3:impl_putBytes s.2.1 2 = some (leB s.2.1 2):=putBytes_out s.2.1 2 (by omega)
 have k4:impl_putBytes s.2.2.1 8 = some (leB s.2.2.1 8):=putBytes_out s.2.2.1 8 (by omega)
 have k5:impl_putBytes s.2.2.2 8 = some (leB s.2.2.2 8):=putBytes_out s.2.2.2 8 (by omega)
 rw [k1,obs,if_pos (by simp),k2,obs,if_pos (by simp),k3,obs,if_pos (by simp),k4,obs,if_pos (by simp),k5,obs]
 have k6:impl_padded ([65,82,82,83] ++ leB 1 1 ++ leB s.1 2 ++ leB s.2.1 2 ++ leB s.2.2.1 8 ++ leB s.2.2.2 8) 32 = some (halfS s):=padded_out ([65,82,82,83] ++ leB 1 1 ++ leB s.1 2 ++ leB s.2.1 2 ++ leB s.2.2.1 8 ++ leB s.2.2.2 8) 32 (by simp) (by omega)
 rw [if_pos (by simp),k6,obs,if_pos (by simp [halfS_length])]
 rfl
def leN:Str → Nat
 | []=>0
 | b::s=>b.toNat + 256 * leN s
theorem leN_lt:∀ s:Str,leN s < 256 ^ s.length
 | []=>by simp [leN]
 | b::s=>by
  have:=leN_lt s
  have hb:b.toNat < 256:=b.toNat_lt
  simp only [leN,List.length_cons,Nat.pow_succ]
  omega
theorem leN_append:∀ (s t:Str),leN (s ++ t) = leN s + 256 ^ s.length * leN t
 | [],t=>by simp [leN]
 | b::s,t=>by
  simp only [List.cons_append,leN,leN_append s t,List.length_cons,Nat.pow_succ,Nat.mul_add]
  rw [show 256 ^ s.length * 256 * leN t = 256 * (256 ^ s.length * leN t) by rw [Nat.mul_comm (256 ^ s.length) 256,Nat.mul_assoc]]
  omega
theorem leN_drop_le (s:Str) (j:Nat):leN (s.drop j) ≤ leN s:=by
 induction s generalizing j with
 | nil=>simp
 | cons b s ih =>
  cases j with
  | zero=>simp
  | succ j =>
   have:=ih j
   simp only [List.drop_succ_cons,leN]; omega
theorem pow256 (i:Nat):(2:Int) ^ (8 * i) = ((256 ^ i:Nat):Int):=by
 rw [Int.pow_mul]; simp
theorem l01GetUint_out (s:Str) (at_ k:Nat) (hk:1 ≤ k ∧ k ≤ 8) (h:at_ + k ≤ s.length) (hs:s.length ≤ 1048576) :
  spec_l01GetUint s at_ k = some (if leN ((s.drop at_).take k) < 9223372036854775808 then ((leN ((s.drop at_).take k):Int),true) else (0,false)):=by
 have hpl:((s.drop at_).take k).length = k:=by simp; omega
 have hget:∀ j,j < k → s[at_ + j]? = ((s.drop at_).take k)[j]?:=fun j hj=>by rw [List.getElem?_take,if_pos hj,List.getElem?_drop]
 generalize hp:(s.drop at_).take k = p at hpl hget
 have loop:leN p < 9223372036854775808 → spec_l01GetUint_p1 s at_ k = some ((leN p:Int),true):=fun hlt=>by
  unfold spec_l01GetUint_p1 spec_l01GetUint_l2
  rw [wrap_in (by omega) (by omega)]
  rw [loop_some (f:=fun t=>spec_l01GetUint_l2_b s at_ t.1 t.2) (r:=(leN p:Int)) k (fun i t=>t = ((leN (p.drop (k - i)):Int),(k:Int) - 1 - i)) (fun i t hi ht=>?_) k 0 _ (by omega) (by rw [List.drop_of_length_le (by omega)]; simp [leN])]
  ·rfl
  ·subst ht
   simp only [spec_l01GetUint_l2_b]
   by_cases hn:i < k
   ·obtain ⟨b,hb⟩:=get_at (l:=p) (i:=k - 1 - i) (by omega)
    have hd:p.drop (k - (i + 1)) = b::p.drop (k - i):=by
     rw [show k - (i + 1) = k - 1 - i by omega,show k - i = k - 1 - i + 1 by omega]
     rw [List.drop_eq_getElem_cons (by omega)]
     congr 1
     rw [List.getElem?_eq_getElem (by omega)] at hb
     exact Option.some.inj hb
    have hle:=leN_drop_le p (k - (i + 1))
    have e:leN (p.drop (k - (i + 1))) = b.toNat + 256 * leN (p.drop (k - i)):=by rw [hd]; rfl
    have hbl:=b.toNat_lt
    rw [if_pos (by omega),wrap_in (n:=(at_:Int) + _) (by omega) (by omega),if_pos (by omega),show ((at_:Int) + ((k:Int) - 1 - i)).toNat = at_ + (k - 1 - i) by omega,hget _ (by omega),hb,obs]
    rw [wrap_in (n:=(b.toNat:Int)) (by omega) (by omega),wrap_in (n:=_ * 256) (by omega) (by omega),wrap_in (by omega) (by omega),wrap_in (by omega) (by omega)]
    refine .inr ⟨hn,_,rfl,?_⟩
    rw [e]
    simp only [Prod.mk.injEq]
    omega
   ·have:i = k:=by omega
    subst this
    rw [if_neg (by omega)]
    simp
 unfold spec_l01GetUint spec_l01Within
 simp only [l00In_out,obs,decide_eq_true_eq]
 rw [if_pos (by omega),if_pos (by omega),obs,wrap_in (by omega) (by omega),if_neg (by simp; omega)]
 by_cases h8:(k:Int) = 8
 ·rw [if_pos h8,wrap_in (by omega) (by omega),if_pos (by omega)]
  obtain ⟨b,hb⟩:=get_at (l:=p) (i:=7) (by omega)
  rw [show ((at_:Int) + 7).toNat = at_ + 7 by omega,hget 7 (by omega),hb,obs]
  have hsp:p = p.take 7 ++ [b]:=by
   have h1:p.take (7 + 1) = p.take 7 ++ [b]:=by rw [List.take_add_one,hb]; rfl
   rw [List.take_of_length_le (by omega)] at h1
   exact h1
  have hv:leN p = leN (p.take 7) + 72057594037927936 * b.toNat:=by
   conv=>lhs; rw [hsp]
   rw [leN_append,show (p.take 7).length = 7 by simp; omega]
   simp [leN]
  have hlt:=leN_lt (p.take 7)
  rw [show (p.take 7).length = 7 by simp; omega] at hlt
  have h256:(256:Nat) ^ 7 = 72057594037927936:=by decide
  by_cases hb7:(b.toNat:Int) > 127
  ·rw [if_pos hb7,if_neg (by omega)]
  ·rw [if_neg hb7,loop (by omega),obs,if_pos (by omega)]
 ·have hlt:=leN_lt p
  rw [hpl] at hlt
  have:(256:Nat) ^ k ≤ 256 ^ 7:=Nat.pow_le_pow_right (by omega) (by omega)
  have h256:(256:Nat) ^ 7 = 72057594037927936:=by decide
  rw [if_neg h8,loop (by omega),obs,if_pos (by omega)]
def rawS (b:Str):DSuper:=(IntKind.i64.wrap (leN ((b.drop 5).take 2):Int),IntKind.i64.wrap (leN ((b.drop 7).take 2):Int),IntKind.i64.wrap (leN ((b.drop 9).take 8):Int),IntKind.i64.wrap (leN ((b.drop 17).take 8):Int))
open Classical in
noncomputable def decS (b:Str):DSuper × Bool:=if SuperV (rawS b) ∧ encS (rawS b) = b then (rawS b,true) else ((0,0,0,0),false)
theorem wrap_small {n:Nat} (h:n < 9223372036854775808):IntKind.i64.wrap (n:Int) = n:=wrap_in (by omega) (by omega)
theorem wrap_big {n:Nat} (h:¬ n < 9223372036854775808) (h':n < 18446744073709551616):IntKind.i64.wrap (n:Int) < 0:=by
 rw [IntKind.wrap_i64]; omega
open Classical in
theorem sDecode_out (b:Str) (h:b.length = 64):spec_DecodeSuper b = some (decS b):=by
 unfold spec_DecodeSuper
 rw [if_neg (by omega)]
 have g1:=l01GetUint_out b 5 2 (by omega) (by omega) (by omega)
 have g2:=l01GetUint_out b 7 2 (by omega) (by omega) (by omega)
 have g3:=l01GetUint_out b 9 8 (by omega) (by omega) (by omega)
 have g4:=l01GetUint_out b 17 8 (by omega) (by omega) (by omega)
 have b1:leN ((b.drop 5).take 2) < 65536:=by have:=leN_lt ((b.drop 5).take 2); rw [show ((b.drop 5).take 2).length = 2 by simp; omega] at this; simpa using this
 have b2:leN ((b.drop 7).take 2) < 65536:=by have:=leN_lt ((b.drop 7).take 2); rw [show ((b.drop 7).take 2).length = 2 by simp; omega] at this; simpa using this
 have b3:leN ((b.drop 9).take 8) < 18446744073709551616:=by have:=leN_lt ((b.drop 9).take 8); rw [show ((b.drop 9).take 8).length = 8 by simp; omega] at this; simpa using this
 have b4:leN ((b.drop 17).take 8) < 18446744073709551616:=by have:=leN_lt ((b.drop 17).take 8); rw [show ((b.drop 17).take 8).length = 8 by simp; omega] at this; simpa using this
 rw [if_pos (by omega)] at g1 g2
 have hraw:rawS b = ((leN ((b.drop 5).take 2):Int),(leN ((b.drop 7).take 2):Int),IntKind.i64.wrap (leN ((b.drop 9).take 8):Int),IntKind.i64.wrap (leN ((b.drop 17).take 8):Int)):=by
  unfold rawS
  rw [wrap_small (n:=leN ((b.drop 5).take 2)) (by omega),wrap_small (n:=leN ((b.drop 7).take 2)) (by omega)]
 generalize leN ((b.drop 5).take 2) = x1 at *
 generalize leN ((b.drop 7).take 2) = x2 at *
 generalize leN ((b.drop 9).take 8) = x3 at *
 generalize leN ((b.drop 17).take 8) = x4 at *
 have G1:spec_l01GetUint b 5 2 = some ((x1:Int),true):=g1
 have G2:spec_l01GetUint b 7 2 = some ((x2:Int),true):=g2
 have G3:spec_l01GetUint b 9 8 = some (if x3 < 9223372036854775808 then ((x3:Int),true) else (0,false)):=g3
 have G4:spec_l01GetUint b 17 8 = some (if x4 < 9223372036854775808 then ((x4:Int),true) else (0,false)):=g4
 have step:∀ (p:Int × Bool) (q:Int × Bool),spec_l01GetUint b 9 8 = some p → spec_l01GetUint b 17 8 = some q → ∃ a5,spec_DecodeSuper_l1 (b,(0,0,0,0),(0,0,0,0),true,0) = some (b,a5,((x1:Int),(x2:Int),p.1,q.1),p.2 && q.2):=by
  intro p q hp hq
  refine ⟨(0,0,0,0),?_⟩
  unfold spec_DecodeSuper_l1
  have k1:IntKind.i64.wrap 1 = 1:=by decide
  have k2:IntKind.i64.wrap 2 = 2:=by decide
  have k3:IntKind.i64.wrap 3 = 3:=by decide
  have k4:IntKind.i64.wrap 4 = 4:=by decide
  rw [loopO_inl (s':=(b,(0,0,0,0),((x1:Int),0,0,0),true,1)) (by simp [spec_DecodeSuper_l1_b,spec_DecodeSuper_p2,lit,G1,k1])]
  rw [loopO_inl (s':=(b,(0,0,0,0),((x1:Int),(x2:Int),0,0),true,2)) (by simp [spec_DecodeSuper_l1_b,spec_DecodeSuper_p2,lit,G2,k2])]
  rw [loopO_inl (s':=(b,(0,0,0,0),((x1:Int),(x2:Int),p.1,0),p.2,3)) (by simp [spec_DecodeSuper_l1_b,spec_DecodeSuper_p2,lit,hp,k3])]
  rw [loopO_inl (s':=(b,(0,0,0,0),((x1:Int),(x2:Int),p.1,q.1),p.2 && q.2,4)) (by cases hp2:p.2 <;> simp [spec_DecodeSuper_l1_b,spec_DecodeSuper_p2,lit,hq,k4])]
  rw [loopO_inr (r:=(b,(0,0,0,0),((x1:Int),(x2:Int),p.1,q.1),p.2 && q.2)) (by simp [spec_DecodeSuper_l1_b])]
 obtain ⟨a5,hl⟩:=step _ _ G3 G4
 rw [hl,obs]
 simp only
 unfold decS
 by_cases h3:x3 < 9223372036854775808
 case neg =>
  rw [if_neg h3]
  simp only [Bool.false_and,Bool.false_eq_true,not_false_eq_true,if_true]
  rw [if_neg]
  rintro ⟨hv,_⟩
  rw [hraw] at hv
  have:=hv.2.2.2.2.2.1
  have:=wrap_big h3 b3
  simp only at *
  omega
 by_cases h4:x4 < 9223372036854775808
 case neg =>
  rw [if_neg h4]
  simp only [Bool.and_false,Bool.false_eq_true,not_false_eq_true,if_true]
  rw [if_neg]
  rintro ⟨hv,_⟩
  rw [hraw] at hv
  have:=hv.2.2.2.2.2.2.2.1
  have:=wrap_big h4 b4
  simp only at *
  omega
 rw [wrap_small h3,wrap_small h4] at hraw
 rw [if_pos h3,if_pos h4]
 simp only [Bool.and_self,not_true_eq_false,if_false,sValidSuper_out,obs,deq]
 rw [hraw]
 by_cases h1:SuperV ((x1:Int),(x2:Int),(x3:Int),(x4:Int))
 case neg=>rw [if_pos h1,if_neg (fun q=>h1 q.1)]
 rw [if_neg (by simpa using h1),l10Encode_out _ h1.sin,obs]
 by_cases h2:encS ((x1:Int),(x2:Int),(x3:Int),(x4:Int)) = b
 case neg=>rw [if_pos h2,if_neg (fun q=>h2 q.2)]
 rw [if_neg (by simpa using h2),if_pos ⟨h1,h2⟩]
noncomputable def slotS (d:DDisk) (k:Int):DSuper × Bool :=
 if (decS (rdD d k)).2 = true ∧ (decS (rdD d k)).1.1 = (d.1.length:Int) ∧ Int.tmod (decS (rdD d k)).1.2.2.2 2 = k then ((decS (rdD d k)).1,true) else ((0,0,0,0),false)
noncomputable def choS (d:DDisk):DSuper × Bool :=
 if (slotS d 0).2 = true ∧ ¬ ((slotS d 1).2 = true ∧ (slotS d 0).1.2.2.2 < (slotS d 1).1.2.2.2) then slotS d 0 else slotS d 1
theorem slotS_tmod {d:DDisk} {k:Int} (h:(slotS d k).2 = true):Int.tmod (slotS d k).1.2.2.2 2 = k:=by
 unfold slotS at *
 split
 ·rename_i q; exact q.2.2
 ·rename_i q; rw [if_neg q] at h; cases h
open Classical in
theorem l10Slot_out (d:DDisk) (k:Int) (hd:DiskV d) (h0:0 ≤ k) (h1:k < (d.1.length:Int)):spec_l10Slot d k = some (slotS d k):=by
 obtain ⟨r1,r2⟩:=readD_out d k hd h0 h1
 unfold spec_l10Slot slotS
 rw [l09Read_out d k (by have:=hd.2.2.1; omega),r1,obs,sDecode_out _ r2,obs]
 generalize decS (rdD d k) = r
 by_cases c1:r.2 = true
 case neg=>rw [if_pos c1,if_neg (fun q=>c1 q.1)]
 rw [if_neg (by simpa using c1)]
 by_cases c2:r.1.1 = (d.1.length:Int)
 case neg=>rw [if_pos c2,if_neg (fun q=>c2 q.2.1)]
 rw [if_neg (by simpa using c2)]
 by_cases c3:Int.tmod r.1.2.2.2 2 = k
 case neg=>rw [if_pos c3,if_neg (fun q=>c3 q.2.2)]
 rw [if_neg (by simpa using c3),if_pos ⟨c1,c2,c3⟩]
theorem l10Choose_out (d:DDisk) (hd:DiskV d):spec_l10Choose d = some (if (choS d).2 = true then ((choS d).1,0) else ((0,0,0,0),10)):=by
 unfold spec_l10Choose
 have hl:=hd.1
 rw [l10Slot_out d 0 hd (by omega) (by omega),l10Slot_out d 1 hd (by omega) (by omega),obs,obs]
 have t0:=slotS_tmod (d:=d) (k:=0)
 have t1:=slotS_tmod (d:=d) (k:=1)
 have hch:choS d = (if (slotS d 0).2 = true ∧ ¬ ((slotS d 1).2 = true ∧ (slotS d 0).1.2.2.2 < (slotS d 1).1.2.2.2) then slotS d 0 else slotS d 1):=by
  unfold choS; congr
 generalize slotS d 0 = a at *
 generalize slotS d 1 = b at *
 generalize choS d = c at *
 by_cases c0:a.2 = true
 ·rw [if_pos c0]
  by_cases c1:b.2 = true
  ·rw [if_neg (by simpa using c1)]
   by_cases c2:a.1.2.2.2 > b.1.2.2.2
   ·rw [if_pos ⟨c0,fun q=>by omega⟩] at hch
    subst hch
    rw [if_pos c2,if_pos c0]
   ·have hne:a.1.2.2.2 ≠ b.1.2.2.2:=fun e=>by
     have:=t0 c0; rw [e,t1 c1] at this; omega
    rw [if_neg (fun q=>q.2 ⟨c1,by omega⟩)] at hch
    subst hch
    rw [if_neg c2,if_pos c1]
    simp [spec_l10Choose_p1,c1]
  ·rw [if_pos ⟨c0,fun q=>c1 q.1⟩] at hch
   subst hch
   rw [if_pos c1,if_pos c0]
 ·rw [if_neg (fun q=>c0 q.1)] at hch
  subst hch
  rw [if_neg c0]
  by_cases c1:c.2 = true
  ·rw [if_pos c1]; simp [spec_l10Choose_p1,c1]
  ·rw [if_neg c1]
   have:c.2 = false:=by simpa using c1
   simp [spec_l10Choose_p1,this]
theorem shr8 (n j:Nat) (h:8 * j ≤ 64):shrV .i64 (n:Int) (8 * (j:Int)) = ((n / 256 ^ j:Nat):Int):=by
 unfold shrV
 rw [show min (8 * (j:Int)).toNat IntKind.i64.bits = 8 * j by show min (8 * (j:Int)).toNat 64 = 8 * j; omega,pow256]
 rw [Int.fdiv_eq_ediv_of_nonneg _ (Int.natCast_nonneg _)]
 exact (Int.natCast_ediv _ _).symm
theorem leN_leB (n:Nat):∀ k:Nat,k ≤ 8 → leN (leB (n:Int) k) = n % 256 ^ k
 | 0,_=>by simp [leB,leN]; omega
 | k + 1,hk=>by
  have e:leB (n:Int) (k + 1) = leB (n:Int) k ++ [(byB (n:Int) k).v]:=by simp [leB,List.range_succ]
  rw [e,leN_append,leN_leB n k (by omega),leB_length]
  have hb:((byB (n:Int) k).v).toNat = n / 256 ^ k % 256:=by
   unfold byB
   rw [shr8 n k (by omega)]
   have:(((n / 256 ^ k:Nat):Int) % 256).toNat = n / 256 ^ k % 256:=by omega
   rw [this]
   simp
  rw [show leN [(byB (n:Int) k).v] = n / 256 ^ k % 256 by simp [leN,hb]]
  rw [Nat.pow_succ,Nat.mod_mul]
theorem rawS_enc (s:DSuper) (h:SuperV s):rawS (encS s) = s:=by
 obtain ⟨h1,h2,h3,h4,h5,h6,h7,h8,h9⟩:=h
 obtain ⟨a,b,c,d⟩:=s
 simp only at h1 h2 h3 h4 h5 h6 h7 h8 h9
 obtain ⟨a,rfl⟩:∃ n:Nat,a = n:=⟨a.toNat,by omega⟩
 obtain ⟨b,rfl⟩:∃ n:Nat,b = n:=⟨b.toNat,by omega⟩
 obtain ⟨c,rfl⟩:∃ n:Nat,c = n:=⟨c.toNat,by omega⟩
 obtain ⟨d,rfl⟩:∃ n:Nat,d = n:=⟨d.toNat,by omega⟩
 have cut:∀ (p q r:Str) (i k:Nat),p.length = i → q.length = k → ((p ++ (q ++ r)).drop i).take k = q:=fun p q r i k hp hq=>by
  rw [List.drop_left' hp,List.take_left' hq]
 have e:encS ((a:Int),(b:Int),(c:Int),(d:Int)) = [65,82,82,83] ++ (leB 1 1 ++ (leB a 2 ++ (leB b 2 ++ (leB c 8 ++ (leB d 8 ++ (List.replicate 7 0 ++ halfS ((a:Int),(b:Int),(c:Int),(d:Int)))))))):=by
  simp [encS,halfS]
 have c1:((encS ((a:Int),(b:Int),(c:Int),(d:Int))).drop 5).take 2 = leB a 2:=by
  rw [e,show [65,82,82,83] ++ (leB 1 1 ++ (leB a 2 ++ (leB b 2 ++ (leB c 8 ++ (leB d 8 ++ (List.replicate 7 0 ++ halfS ((a:Int),(b:Int),(c:Int),(d:Int)))))))) = ([65,82,82,83] ++ leB 1 1) ++ (leB a 2 ++ (leB b 2 ++ (leB c 8 ++ (leB d 8 ++ (List.replicate 7 0 ++ halfS ((a:Int),(b:Int),(c:Int),(d:Int))))))) by simp]
  exact cut _ _ _ 5 2 (by simp) (by simp)
 have c2:((encS ((a:Int),(b:Int),(c:Int),(d:Int))).drop 7).take 2 = leB b 2:=by
  rw [e,show [65,82,82,83] ++ (leB 1 1 ++ (leB a 2 ++ (leB b 2 ++ (leB c 8 ++ (leB d 8 ++ (List.replicate 7 0 ++ halfS ((a:Int),(b:Int),(c:Int),(d:Int)))))))) = ([65,82,82,83] ++ leB 1 1 ++ leB a 2) ++ (leB b 2 ++ (leB c 8 ++ (leB d 8 ++ (List.replicate 7 0 ++ halfS ((a:Int),(b:Int),(c:Int),(d:Int)))))) by simp]
  exact cut _ _ _ 7 2 (by simp) (by simp)
 have c3:((encS ((a:Int),(b:Int),(c:Int),(d:Int))).drop 9).take 8 = leB c 8:=by
  rw [e,show [65,82,82,83] ++ (leB 1 1 ++ (leB a 2 ++ (leB b 2 ++ (leB c 8 ++ (leB d 8 ++ (List.replicate 7 0 ++ halfS ((a:Int),(b:Int),(c:Int),(d:Int)))))))) = ([65,82,82,83] ++ leB 1 1 ++ leB a 2 ++ leB b 2) ++ (leB c 8 ++ (leB d 8 ++ (List.replicate 7 0 ++ halfS ((a:Int),(b:Int),(c:Int),(d:Int))))) by simp]
  exact cut _ _ _ 9 8 (by simp) (by simp)
 have c4:((encS ((a:Int),(b:Int),(c:Int),(d:Int))).drop 17).take 8 = leB d 8:=by
  rw [e,show [65,82,82,83] ++ (leB 1 1 ++ (leB a 2 ++ (leB b 2 ++ (leB c 8 ++ (leB d 8 ++ (List.replicate 7 0 ++ halfS ((a:Int),(b:Int),(c:Int),(d:Int)))))))) = ([65,82,82,83] ++ leB 1 1 ++ leB a 2 ++ leB b 2 ++ leB c 8) ++ (leB d 8 ++ (List.replicate 7 0 ++ halfS ((a:Int),(b:Int),(c:Int),(d:Int)))) by simp]
  exact cut _ _ _ 17 8 (by simp) (by simp)
 have n1:=leN_leB a 2 (by omega)
 have n2:=leN_leB b 2 (by omega)
 have n3:=leN_leB c 8 (by omega)
 have n4:=leN_leB d 8 (by omega)
 rw [Nat.mod_eq_of_lt (by omega)] at n1 n2 n3 n4
 unfold rawS
 rw [c1,c2,c3,c4,n1,n2,n3,n4,wrap_in (by omega) (by omega),wrap_in (by omega) (by omega),wrap_in (by omega) (by omega),wrap_in (by omega) (by omega)]
theorem decS_enc (s:DSuper) (h:SuperV s):decS (encS s) = (s,true):=by
 unfold decS
 rw [rawS_enc s h,if_pos ⟨h,rfl⟩]
end Go.Proofs.TM
