/-
  A region whose order is open, with a call that may change blocks: some operations may come behind the call.
-/
import Derived.Test.YtbhfiopdgapepaaGreatTDraw
namespace Go.Proofs.TM
open Go
set_option linter.unusedVariables false
set_option linter.unusedSimpArgs false

section
variable {P : Program} {S : Sys}

structure DrawFactsL (ops : Array Oper) (tos : List TO) (n : Nat) (ancs : List (List Nat)) (late : List Nat) (d : Option Nat) (ts : List Nat) : Prop where
  len : n < ops.size
  alen : ancs.length = ops.size
  ltn : ∀ j ∈ late, j < n
  call : ∀ j, j < n → j ∉ late → j ∈ ancs.getD n []
  tail : ∀ i, n < i → i < ops.size → ∀ j, j ≤ n → j ∈ ancs.getD i []
  sepd : ∀ (j : Nat) (tj : TO) (y : Nat), j < n → tos[j]? = some tj → d = some y → tj.dst ≠ some y ∧ (j ∈ late → y ∉ toTmps tj)
  sepa : ∀ (j : Nat) (tj : TO) (x : Nat), j < n → tos[j]? = some tj → j ∈ late → tj.dst = some x → x ∉ ts
  seq : Region.seqB .any ops (ops.size - (n + 1)) (n + 1) ((Array.range ops.size).map fun j => decide (j < n + 1)) = true
  edge : ∀ (i : Nat) (o : Oper), ops[i]? = some o → ∀ j ∈ edges o, j < i
  anc : ∀ (i : Nat) (o : Oper) (an : List Nat), ops[i]? = some o → ancs[i]? = some an → ∀ b ∈ an, b ∈ edges o ∨ ∃ j ∈ edges o, b ∈ ancs.getD j []
  head : ∀ (i : Nat) (o : Oper) (to : TO) (j : Nat) (tj : TO) (d : Nat), i < n → ops[i]? = some o → tos[i]? = some to → j < n → tos[j]? = some tj → tj.dst = some d → (d ∈ toTmps to → j ≠ i ∧ j ∈ edges o) ∧ (to.dst = some d → j = i)

theorem DrawFactsL.of {nt : Nat} {ops : Array Oper} {tos : List TO} {n : Nat} {ancs : List (List Nat)} {late : List Nat} {d : Option Nat} {ts : List Nat} (hts : TrOs P nt ops ops.toList tos) (h : drawLOk ops tos n ancs late d ts = true) : DrawFactsL ops tos n ancs late d ts := by
  unfold drawLOk at h
  simp only [Bool.and_eq_true, decide_eq_true_eq, List.all_eq_true, List.mem_range] at h
  obtain ⟨⟨⟨⟨⟨⟨⟨h1, h2⟩, hl⟩, hc⟩, ht⟩, hs⟩, h3⟩, h4⟩ := h
  have hlen : tos.length = ops.size := by simpa using hts.length
  have full : ∀ i o, ops[i]? = some o → ∃ an to, i < ops.size ∧ ancs[i]? = some an ∧ tos[i]? = some to := fun i o ho => by
    have hi : i < ops.size := (Array.getElem?_eq_some_iff.1 ho).1
    exact ⟨_, _, hi, List.getElem?_eq_getElem (by omega), List.getElem?_eq_getElem (by omega)⟩
  refine ⟨h1, h2, hl, fun j hj hn => ?_, fun i hi hio j hj => ?_, fun j tj y hj htj hd => ?_, fun j tj x hj htj hla hx => ?_, h4, fun i o ho j hj => ?_, fun i o an ho ha b hb => ?_, fun i o to j tj d hi ho hto hj htj hd => ?_⟩
  · have := hc j hj
    simp only [Bool.or_eq_true, List.contains_iff_mem] at this
    exact this.resolve_left hn
  · have := ht i hio
    simp only [Bool.or_eq_true, decide_eq_true_eq, List.all_eq_true, List.mem_range, List.contains_iff_mem] at this
    exact (this.resolve_left (by omega)) j (by omega)
  · have := hs j hj
    rw [htj, hd] at this
    simp only [Bool.and_eq_true, Bool.or_eq_true, Bool.not_eq_true', bne_iff_ne, ne_eq] at this
    refine ⟨this.1.1, fun hla hm => ?_⟩
    rcases this.1.2 with g | g
    · have : late.contains j = true := by simpa using hla
      rw [this] at g; cases g
    · have : (toTmps tj).contains y = true := by simpa using hm
      rw [this] at g; cases g
  · have := hs j hj
    rw [htj] at this
    simp only [Bool.and_eq_true, Bool.or_eq_true, Bool.not_eq_true', hx] at this
    intro hm
    rcases this.2 with g | g
    · have : late.contains j = true := by simpa using hla
      rw [this] at g; cases g
    · have : ts.contains x = true := by simpa using hm
      rw [this] at g; cases g
  · obtain ⟨an, to, hi, ha, hto⟩ := full i o ho
    have := h3 i hi
    rw [ho, ha, hto] at this
    simp only [Bool.and_eq_true, List.all_eq_true, decide_eq_true_eq] at this
    exact this.1.1 j hj
  · obtain ⟨an', to, hi, ha', hto⟩ := full i o ho
    have := h3 i hi
    rw [ho, ha, hto] at this
    simp only [Bool.and_eq_true, List.all_eq_true, decide_eq_true_eq, Bool.or_eq_true, List.any_eq_true, List.contains_iff_mem] at this
    exact this.1.2 b hb
  · obtain ⟨an, to', hi', ha, hto'⟩ := full i o ho
    have := h3 i hi'
    rw [ho, ha, hto] at this
    simp only [if_pos hi, Bool.and_eq_true, List.all_eq_true, List.mem_range] at this
    have := this.2 j hj
    rw [htj] at this
    simp only [Option.bind_some, hd, Bool.and_eq_true, Bool.or_eq_true, Bool.not_eq_true', bne_iff_ne, ne_eq, beq_iff_eq, List.contains_iff_mem] at this
    refine ⟨fun hm => ?_, fun hdd => ?_⟩
    · rcases this.1 with g | g
      · have : (toTmps to).contains d = true := by simpa using hm
        rw [this] at g; cases g
      · exact g
    · rcases this.2 with g | g
      · exact g
      · exact absurd hdd g

theorem lateOk_get {hd : List (List Nat × TO)} {Ns : List (List Blk)} {e : Env} {H : Heap} : ∀ {late : List Nat}, lateOk S hd Ns e H late → ∀ j ∈ late, ∃ an x op, hd[j]? = some (an, ⟨some x, none, op⟩) ∧ Ns[j]? = some [] ∧ opA S (keepEnv (topTmps op) e) H H.length op = some (get e x, [])
  | [], _, j, hj => by cases hj
  | k :: l, h, j, hj => by
    obtain ⟨h1, h2⟩ := h
    rcases List.mem_cons.1 hj with rfl | hj
    · unfold lateOne at h1
      split at h1
      · rename_i an x op q1 q2; exact ⟨an, x, op, q1, q2, h1⟩
      · exact h1.elim
    · exact lateOk_get h2 j hj

theorem keepEnv_in {l : List Nat} {e : Env} (t : Nat) : (get (keepEnv l e) t = get e t ∧ t ∈ l) ∨ get (keepEnv l e) t = .undef := by
  unfold keepEnv
  induction l with
  | nil => exact .inr rfl
  | cons k ks ih =>
    simp only [List.map_cons, get]
    by_cases hk : t = k
    · subst hk; left; simp
    · rw [if_neg hk]
      rcases ih with ⟨h1, h2⟩ | h1
      · exact .inl ⟨h1, List.mem_cons_of_mem _ h2⟩
      · exact .inr h1

theorem ev_keep {l : List Nat} {e : Env} {x : Opd} (h : ∀ t ∈ opdTmps x, t ∈ l) : ev (keepEnv l e) x = ev e x := by
  cases x with
  | c v => rfl
  | t n =>
    have hn : n ∈ l := h n (by simp [opdTmps])
    simp only [ev]
    unfold keepEnv
    induction l with
    | nil => simp at hn
    | cons k ks ih =>
      simp only [List.map_cons, get]
      by_cases hk : n = k
      · subst hk; simp
      · rw [if_neg hk]
        refine ih (fun t ht => ?_) ?_
        · have : t = n := by simpa [opdTmps] using ht
          subst this
          rcases List.mem_cons.1 hn with g | g
          · exact absurd g hk
          · exact g
        · rcases List.mem_cons.1 hn with g | g
          · exact absurd g hk
          · exact g

theorem maskS_full {sel : Nat → Bool} : ∀ {k : Nat} {Ns : List (List Blk)}, (∀ j N, Ns[j]? = some N → sel (k + j) = false → N = []) → maskS sel k Ns = Ns.flatten
  | _, [], _ => rfl
  | k, N :: Ns, h => by
    have ih := maskS_full (sel := sel) (k := k + 1) (Ns := Ns) fun j N' h1 h2 => h (j + 1) N' (by simpa using h1) (by rw [show k + (j + 1) = k + 1 + j by omega]; exact h2)
    simp only [maskS, List.flatten_cons, ih]
    cases hs : sel k with
    | true => rfl
    | false =>
      have := h 0 N rfl (by simpa using hs)
      subst this
      rfl

theorem drawL_ok {rec : TC → Env → Heap → Option Out} (hS : SysOk P S) (hrec : RecOk P S rec) {nt : Nat} {id : Nat} {ops : Array Oper} {tos : List TO} {n : Nat} {ancs : List (List Nat)} {late : List Nat} {d : Option Nat} {op0 op : TOp}
    (hm : P.follows .mixedOrders = true) (hts : TrOs P nt ops ops.toList tos) (hok : drawLOk ops tos n ancs late d (topTmps op) = true) (hcn : tos[n]? = some ⟨d, none, op0⟩) (hmid : MidOp op0 op) {tl : List TO} (htl : TrL P nt ops (ops.toList.drop (n + 1)) tl)
    {e e1 e2 : Env} {H H2 H3 : Heap} {vc : TV} {Ns : List (List Blk)} (hrun : runDraw S H ((ancs.zip tos).take n) e [] = some (e1, Ns)) (hcall : runOp rec S e1 (H ++ Ns.flatten) op = some (vc, H3)) (hlate : lateOk S ((ancs.zip tos).take n) Ns e1 H3 late)
    (hrun2 : runOps rec S tl (put e1 d vc) H3 = some (e2, H2))
    {w : World} {I : Nat → Nat → Prop} {μ : Mu} {a : Act} (hi : Inv nt w I μ H e a) {Q : Exit → Act → World → Prop} (hQ : ∀ a' w', (∃ I' μ', Stp w I μ (look H) w' I' μ' (look H2) ∧ Inv nt w' I' μ' H2 e2 a') → Q .normal a' w') : (Code.region id ops true).wp P Q a w := by
  have F := DrawFactsL.of hts hok
  obtain ⟨R, Ns', r1, r2, r3, r4, r5⟩ := runDraw_spec hrun
  simp only [List.nil_append] at r3 r5
  subst r3
  have hlen : tos.length = ops.size := by simpa using hts.length
  have hll : ((ancs.zip tos).take n).length = n := by
    have := F.len; have := F.alen
    simp; omega
  rw [hll] at r1 r2
  -- what the list holds
  have hl : ∀ i, i < n → ∃ an to v N, ancs[i]? = some an ∧ tos[i]? = some to ∧ ((ancs.zip tos).take n)[i]? = some (an, to) ∧ R[i]? = some v ∧ Ns[i]? = some N := fun i h => by
    have := F.len; have := F.alen
    have ha : ancs[i]? = some ancs[i] := List.getElem?_eq_getElem (by omega)
    have ht : tos[i]? = some tos[i] := List.getElem?_eq_getElem (by omega)
    refine ⟨ancs[i], tos[i], R[i], Ns[i], ha, ht, ?_, List.getElem?_eq_getElem (by omega), List.getElem?_eq_getElem (by omega)⟩
    rw [List.getElem?_take, if_pos h]
    simp [List.getElem?_zip_eq_some, ha, ht]
  have hD : ∀ j d v, (dvs ((ancs.zip tos).take n) R)[j]? = some (d, v) → j < n ∧ ∃ to, tos[j]? = some to ∧ to.dst = d ∧ R[j]? = some v := fun j d v h => by
    unfold dvs at h
    have hj : j < n := by
      have := (List.getElem?_eq_some_iff.1 h).1
      simp at this; omega
    obtain ⟨an, to, v', N, h1, h2, h3, h4, h5⟩ := hl j hj
    have hz : (((ancs.zip tos).take n).zip R)[j]? = some ((an, to), v') := by
      rw [List.getElem?_zip_eq_some]; exact ⟨h3, h4⟩
    rw [List.getElem?_map, hz] at h
    simp only [Option.map_some, Option.some.injEq, Prod.mk.injEq] at h
    exact ⟨hj, to, h2, h.1, by rw [h4, h.2]⟩
  have hDi : ∀ (j : Nat) (an : List Nat) (to : TO) (v : TV), ((ancs.zip tos).take n)[j]? = some (an, to) → R[j]? = some v → (dvs ((ancs.zip tos).take n) R)[j]? = some (to.dst, v) := fun j an to v h1 h2 => by
    unfold dvs
    rw [List.getElem?_map]
    have : (((ancs.zip tos).take n).zip R)[j]? = some ((an, to), v) := by rw [List.getElem?_zip_eq_some]; exact ⟨h1, h2⟩
    rw [this]; rfl
  have hgd : ∀ (listed : Array Bool), listed.size = ops.size → ∀ j d, j < ops.size → listed.getD j d = listed.getD j false := fun listed hsz j d hj => by simp [hsz, hj]
  -- what a listed operation has behind it
  have hanc : ∀ (listed : Array Bool), listed.size = ops.size → (∀ j o, ops[j]? = some o → listed.getD j false = true → ∀ k ∈ edges o, listed.getD k false = true) → ∀ (k : Nat), listed.getD k false = true → ∀ b ∈ ancs.getD k [], listed.getD b false = true := by
    intro listed hsz hcl k
    induction k using Nat.strongRecOn with
    | _ k ihk =>
      intro hk b hb
      have hkl : k < ops.size := by
        rw [← hsz]
        rcases Nat.lt_or_ge k listed.size with h' | h'
        · exact h'
        · simp [Array.getElem?_eq_none h'] at hk
      have ho : ops[k]? = some ops[k] := Array.getElem?_eq_getElem hkl
      have ha : ancs[k]? = some (ancs.getD k []) := by
        have : k < ancs.length := by rw [F.alen]; exact hkl
        simp [List.getD_eq_getElem?_getD, this]
      rcases F.anc k _ _ ho ha b hb with g | ⟨j, g1, g2⟩
      · exact hcl k _ ho hk b g
      · exact ihk j (F.edge k _ ho j g1) (hcl k _ ho hk j g1) b g2
  have hready : ∀ (listed : Array Bool), listed.size = ops.size → (∀ j o, ops[j]? = some o → listed.getD j false = true → ∀ k ∈ edges o, listed.getD k false = true) → ∀ i ∈ Region.ready .any ops listed, ∃ o, ops[i]? = some o ∧ i < ops.size ∧ listed.getD i false = false ∧ (∀ k ∈ edges o, listed.getD k false = true) ∧ (∀ b ∈ ancs.getD i [], listed.getD b false = true) := fun listed hsz hcl i hr => by
    obtain ⟨h0, o, ho, hall⟩ := mem_ready.1 hr
    have hil : i < ops.size := (Array.getElem?_eq_some_iff.1 ho).1
    have hed : ∀ k ∈ edges o, listed.getD k false = true := fun k hk => by
      unfold edges at hk
      rw [List.mem_map] at hk
      obtain ⟨ed, h1, rfl⟩ := hk
      rw [List.mem_filter] at h1
      exact hall ed (by simpa using h1.1) h1.2
    have ha : ancs[i]? = some (ancs.getD i []) := by
      have : i < ancs.length := by rw [F.alen]; exact hil
      simp [List.getD_eq_getElem?_getD, this]
    refine ⟨o, ho, hil, by rw [← hgd listed hsz i true hil]; exact h0, hed, fun b hb => ?_⟩
    rcases F.anc i _ _ ho ha b hb with g | ⟨j, g1, g2⟩
    · exact hed b g
    · exact hanc listed hsz hcl j (hed j g1) b g2
  have least : ∀ (listed : Array Bool), listed.size = ops.size → ∀ j, j ≤ n → listed.getD j false = false → ∃ i ∈ Region.ready .any ops listed, i ≤ n ∧ listed.getD i false = false := by
    intro listed hsz j
    induction j using Nat.strongRecOn with
    | _ j ihj =>
      intro hj hl0
      have hjl : j < ops.size := Nat.lt_of_le_of_lt hj F.len
      have ho : ops[j]? = some ops[j] := Array.getElem?_eq_getElem hjl
      by_cases hall : ∀ k ∈ edges ops[j], listed.getD k false = true
      · refine ⟨j, mem_ready.2 ⟨by rw [hgd listed hsz j true hjl]; exact hl0, _, ho, fun ed he hb => hall _ ?_⟩, hj, hl0⟩
        unfold edges
        rw [List.mem_map]
        exact ⟨ed, by rw [List.mem_filter]; exact ⟨by simpa using he, hb⟩, rfl⟩
      · simp only [Classical.not_forall] at hall
        obtain ⟨k, hk, hkf⟩ := hall
        have hkj := F.edge j _ ho k hk
        exact ihj k hkj (by omega) (by simpa using hkf)
  have hlt0 : n < ops.size := F.len
  have hdvs : ∀ (i : Nat) (an : List Nat) (to : TO) (v : TV) (x : Nat) (o : Oper), i < n → ops[i]? = some o → tos[i]? = some to → ((ancs.zip tos).take n)[i]? = some (an, to) → R[i]? = some v → to.dst = some x → ∀ (sel : Nat → Bool), sel i = true → ∀ y, valS sel x 0 (dvs ((ancs.zip tos).take n) R) y = v := fun i an to v x o hin ho h2 h3 h4 hx sel hs y => by
    refine valS_one _ (i := i) (by rw [← hx]; exact hDi i an to v h3 h4) hs fun j u hj => ?_
    obtain ⟨hjn, tj, g1, g2, g3⟩ := hD j _ _ hj
    exact (F.head i o to j tj x hin ho h2 hjn g1 g2).2 hx
  -- the stage behind one more
  have hset : ∀ (listed : Array Bool), listed.size = ops.size → ∀ i, i < ops.size → (∀ j, (listed.setIfInBounds i true).getD j false = true ↔ listed.getD j false = true ∨ j = i) ∧ (∀ j, j ≠ i → (listed.setIfInBounds i true).getD j false = listed.getD j false) := fun listed hsz i hil => by
    refine ⟨fun j => ?_, fun j hj => getD_set_ne false (Ne.symm hj)⟩
    by_cases hij : i = j
    · subst hij
      have : i < listed.size := by rw [hsz]; exact hil
      simp [this]
    · rw [getD_set_ne false hij]
      exact ⟨.inl, fun h => h.resolve_right fun hh => hij hh.symm⟩
  have hclS : ∀ (listed : Array Bool), listed.size = ops.size → (∀ j o, ops[j]? = some o → listed.getD j false = true → ∀ k ∈ edges o, listed.getD k false = true) → ∀ i o, ops[i]? = some o → (∀ k ∈ edges o, listed.getD k false = true) → ∀ j oj, ops[j]? = some oj → (listed.setIfInBounds i true).getD j false = true → ∀ k ∈ edges oj, (listed.setIfInBounds i true).getD k false = true := fun listed hsz hcl i o ho hed j oj hoj hj k hk => by
    obtain ⟨g1, g2⟩ := hset listed hsz i (Array.getElem?_eq_some_iff.1 ho).1
    refine (g1 k).2 (.inl ?_)
    rcases (g1 j).1 hj with g | g
    · exact hcl j oj hoj g k hk
    · subst g; rw [ho] at hoj; cases hoj; exact hed k hk
  have hcntS : ∀ (listed : Array Bool), listed.size = ops.size → ∀ i m, i < n → listed.getD i false = false → (List.range n).countP (fun j => !listed.getD j false) = m + 1 → (List.range n).countP (fun j => !(listed.setIfInBounds i true).getD j false) = m := fun listed hsz i m hin hun hcnt => by
    obtain ⟨g1, g2⟩ := hset listed hsz i (by omega)
    have := countP_unset (p := fun j => !listed.getD j false) (p' := fun j => !(listed.setIfInBounds i true).getD j false) hin (by simp only [hun, Bool.not_false]) (fun j => by
      by_cases hji : j = i
      · subst hji
        have : (listed.setIfInBounds j true).getD j false = true := (g1 j).2 (.inr rfl)
        simp only [this]; simp
      · simp only [g2 j hji]
        have : (j != i) = true := by simpa using hji
        simp [this])
    omega
  have hvalS : ∀ (listed : Array Bool), listed.size = ops.size → ∀ (i : Nat) (an : List Nat) (to : TO) (v : TV) (o : Oper), i < n → ops[i]? = some o → tos[i]? = some to → ((ancs.zip tos).take n)[i]? = some (an, to) → R[i]? = some v →
      ∀ t, valS (fun j => (listed.setIfInBounds i true).getD j false) t 0 (dvs ((ancs.zip tos).take n) R) (get e t) = if to.dst = some t then v else valS (fun j => listed.getD j false) t 0 (dvs ((ancs.zip tos).take n) R) (get e t) := fun listed hsz i an to v o hin ho h2 h3 h4 t => by
    obtain ⟨g1, g2⟩ := hset listed hsz i (by omega)
    by_cases hdt : to.dst = some t
    · rw [if_pos hdt]
      exact hdvs i an to v t o hin ho h2 h3 h4 hdt _ ((g1 i).2 (.inr rfl)) _
    · rw [if_neg hdt]
      refine valS_congr fun j u hj => ?_
      rw [Nat.zero_add]
      refine g2 j fun hji => hdt ?_
      subst hji
      obtain ⟨hjn, tj, k1, k2, k3⟩ := hD j _ _ hj
      rw [h2] at k1; cases k1
      exact k2
  -- what an operation reads is there
  have hreadS : ∀ (listed : Array Bool) (i : Nat) (to : TO) (o : Oper), i < n → ops[i]? = some o → tos[i]? = some to → (∀ k ∈ edges o, listed.getD k false = true) → ∀ t, t ∈ toTmps to → get e1 t = valS (fun j => listed.getD j false) t 0 (dvs ((ancs.zip tos).take n) R) (get e t) := fun listed i to o hin ho h2 hed t ht => by
    rw [r4 t]
    refine valS_congr fun j u hj => ?_
    rw [Nat.zero_add]
    obtain ⟨hjn, tj, g1, g2, g3⟩ := hD j _ _ hj
    obtain ⟨q1, q2⟩ := (F.head i o to j tj t hin ho h2 hjn g1 g2).1 ht
    rw [hed j q2]
  have keyB : ∀ (m : Nat) (listed : Array Bool), listed.size = ops.size → (∀ j, n < j → listed.getD j false = false) → listed.getD n false = true → (∀ j o, ops[j]? = some o → listed.getD j false = true → ∀ k ∈ edges o, listed.getD k false = true) →
      (List.range n).countP (fun j => !listed.getD j false) = m → (∀ j, j < n → listed.getD j false = false → j ∈ late) → ∀ (w1 : World) (I1 : Nat → Nat → Prop) (μ1 : Mu) (a1 : Act), Stp w I μ (look H) w1 I1 μ1 (look H3) → HR w1 I1 μ1 (look H3) → (∀ id, H3.length ≤ id → μ1 id = none) →
      (∀ t, VR w1 I1 μ1 (if d = some t then vc else valS (fun j => listed.getD j false) t 0 (dvs ((ancs.zip tos).take n) R) (get e t)) (a1.tmps.getD t undef)) → nt ≤ a1.tmps.size → a1.defers = [] → wpAny P .any ops Q (m + (ops.size - (n + 1))) listed a1 w1 := by
    intro m
    induction m with
    | zero =>
      intro listed hsz hltl hln hcl hcnt hlat w1 I1 μ1 a1 hst hhr hdom1 henv hsize hdef
      have hall : ∀ j, j < n + 1 → listed.getD j false = true := fun j hj => by
        by_cases hjn : j = n
        · subst hjn; exact hln
        · have := List.countP_eq_zero.1 hcnt j (by simp; omega)
          simpa using this
      have hcan : listed = (Array.range ops.size).map fun j => decide (j < n + 1) := by
        refine Array.ext (by simp [hsz]) fun j h1 h2 => ?_
        have hg : listed.getD j false = listed[j] := by simp [h1]
        simp only [Array.getElem_map, Array.getElem_range]
        by_cases hj : j < n + 1
        · rw [← hg, hall j hj]; simp [hj]
        · rw [← hg, hltl j (by omega)]; simp [hj]
      have hInv : Inv nt w1 I1 μ1 H3 (put e1 d vc) a1 := by
        refine ⟨hhr, hdom1, fun t => ?_, hsize, hdef⟩
        have hg : get (put e1 d vc) t = if d = some t then vc else get e1 t := by
          cases d with
          | none => simp [put]
          | some y =>
            simp only [put, get, Option.some.injEq]
            by_cases hty : t = y
            · subst hty; simp
            · rw [if_neg hty, if_neg (Ne.symm hty)]
        have := henv t
        rw [hg]
        by_cases hdt : d = some t
        · rw [if_pos hdt] at this ⊢; exact this
        · rw [if_neg hdt] at this ⊢
          rw [r4 t]
          have hc : valS (fun j => listed.getD j false) t 0 (dvs ((ancs.zip tos).take n) R) (get e t) = valS (fun _ => true) t 0 (dvs ((ancs.zip tos).take n) R) (get e t) := valS_congr fun j v hj => by
            rw [Nat.zero_add]; exact hall j (by have := (hD j _ _ hj).1; omega)
          rw [← hc]; exact this
      have hlist := runOps_ok (ops := ops) (Q := Q) hS hrec htl hrun2 hInv fun a' w' ⟨I', μ', g1, g2⟩ => hQ a' w' ⟨I', μ', hst.trans g1, g2⟩
      have := wpAny_of_seq (md := .any) (Q' := Q) (ops.toList.drop (n + 1)) (n + 1) listed a1 w1 (fun j => by simp [List.getElem?_drop]) (by rw [hcan]; simpa using F.seq) hlist
      simpa using this
    | succ m ih =>
      intro listed hsz hltl hln hcl hcnt hlat w1 I1 μ1 a1 hst hhr hdom1 henv hsize hdef
      rw [show m + 1 + (ops.size - (n + 1)) = (m + (ops.size - (n + 1))) + 1 by omega]
      have hex : ∃ j, j < n ∧ listed.getD j false = false := by
        have : 0 < (List.range n).countP (fun j => !listed.getD j false) := by omega
        obtain ⟨j, h1, h2⟩ := List.countP_pos_iff.1 this
        exact ⟨j, by simpa using h1, by simpa using h2⟩
      obtain ⟨j0, hj0, hj1⟩ := hex
      refine ⟨fun h0 => ?_, fun i hr => ?_⟩
      · exfalso
        obtain ⟨i, hi', _⟩ := least listed hsz j0 (by omega) hj1
        rw [h0] at hi'; cases hi'
      · obtain ⟨o, ho, hil, hun, hed, han⟩ := hready listed hsz hcl i hr
        have hin : i < n := by
          rcases Nat.lt_trichotomy i n with h | h | h
          · exact h
          · subst h; rw [hln] at hun; cases hun
          · have := han j0 (F.tail i h hil j0 (by omega))
            rw [hj1] at this; cases this
        have hla := hlat i hin hun
        obtain ⟨an', x, op, q1, q2, q3⟩ := lateOk_get hlate i hla
        obtain ⟨an, to, v, N, h1, h2, h3, h4, h5⟩ := hl i hin
        rw [h3] at q1
        simp only [Option.some.injEq, Prod.mk.injEq] at q1
        obtain ⟨rfl, rfl⟩ := q1
        have hto : TrO P nt ops o ⟨some x, none, op⟩ := hts.get (by simpa using ho) h2
        obtain ⟨hop, hdd, hltx, hg⟩ := hto
        simp only at hop hdd hg
        have hog : o.guard = none := by
          generalize o.guard = og at hg
          cases hg; rfl
        have hv : get e1 x = v := by
          rw [r4 x]; exact hdvs i an _ v x o hin ho h2 h3 h4 rfl _ rfl _
        have hE : ER w1 I1 μ1 (keepEnv (topTmps op) e1) a1.tmps := fun t => by
          rcases keepEnv_in (l := topTmps op) (e := e1) t with ⟨g1, g2⟩ | g1
          · have htm : t ∈ toTmps (⟨some x, none, op⟩ : TO) := by unfold toTmps; exact List.mem_append_left _ g2
            rw [g1, hreadS listed i _ o hin ho h2 hed t htm]
            have := henv t
            rw [if_neg (fun hdt => (F.sepd i _ t hin h2 hdt).2 hla htm)] at this
            exact this
          · rw [g1]; exact .undef _ _
        obtain ⟨s1, s2⟩ := hset listed hsz i hil
        unfold wpOp
        rw [ho]
        simp only
        rw [if_pos (by unfold Region.wanted; rw [hog])]
        left
        refine opA_ok hS.rule hS.ovl rfl hop hhr hE (fun id g1 g2 => by simp at g2; omega) q3 _ _ fun vv w' I' μ' hx h1' h2' h3' h4' h5' h6' h7' => ?_
        rw [plc_nil] at h5' h7'
        have hst2 : Stp w1 I1 μ1 (look H3) w' I' μ' (look H3) := ⟨hx.step _, h1', fun b k h => (h2' b k h).imp .inl (fun h => h), h3', h7'⟩
        refine ih (listed.setIfInBounds i true) (by simpa using hsz) (fun j hj => ?_) ?_ (hclS listed hsz hcl i o ho hed) (hcntS listed hsz i m hin hun hcnt) (fun j hj hjf => ?_) w' I' μ' _ (hst.trans hst2) h5' (fun id hid => ?_) (fun t => ?_) ?_ ?_
        · rw [s2 j (by omega)]; exact hltl j hj
        · rw [s2 n (by omega)]; exact hln
        · have hji : j ≠ i := fun hh => by
            subst hh
            rw [(s1 j).2 (.inr rfl)] at hjf; cases hjf
          rw [s2 j hji] at hjf
          exact hlat j hj hjf
        · rcases h4' id with g | g
          · rw [g]; exact hdom1 id hid
          · simp at g; omega
        · rw [hvalS listed hsz i an _ v o hin ho h2 h3 h4 t, ← hdd]
          have hx1 : x < a1.tmps.size := Nat.lt_of_lt_of_le (hltx x hdd.symm) hsize
          have hxd : d ≠ some x := fun hh => (F.sepd i _ x hin h2 hh).1 rfl
          simp only [Act.put, Option.some.injEq]
          by_cases hxt : x = t
          · subst hxt
            rw [if_neg hxd, if_pos rfl, ← hv]
            simpa [hx1] using h6'
          · rw [if_neg hxt]
            have := (henv t).mono (hx.same I1) h1' _ h3'
            rw [Array.getD_eq_getD_getElem?] at this ⊢
            rw [Array.getElem?_setIfInBounds_ne hxt]
            exact this
        · rw [← hdd]; simpa [Act.put] using hsize
        · rw [← hdd]; exact hdef
  have callStep : ∀ (m : Nat) (listed : Array Bool), listed.size = ops.size → (∀ j, n ≤ j → listed.getD j false = false) → (∀ j o, ops[j]? = some o → listed.getD j false = true → ∀ k ∈ edges o, listed.getD k false = true) →
      (List.range n).countP (fun j => !listed.getD j false) = m → (∀ k ∈ edges ops[n], listed.getD k false = true) → (∀ b ∈ ancs.getD n [], listed.getD b false = true) → ∀ (w1 : World) (I1 : Nat → Nat → Prop) (μ1 : Mu) (a1 : Act),
      MI nt w I μ H Ns (fun j => listed.getD j false) (fun t => valS (fun j => listed.getD j false) t 0 (dvs ((ancs.zip tos).take n) R) (get e t)) w1 I1 μ1 a1 → wpOp P ops Q n (wpAny P .any ops Q (m + (ops.size - (n + 1))) (listed.setIfInBounds n true)) a1 w1 := by
    intro m listed hsz hltl hcl hcnt hed han w1 I1 μ1 a1 hmi
    have hlat : ∀ j, j < n → listed.getD j false = false → j ∈ late := fun j hj hjf => Classical.byContradiction fun hn => by
      have := han j (F.call j hj hn)
      rw [hjf] at this; cases this
    have ho : ops[n]? = some ops[n] := Array.getElem?_eq_getElem hlt0
    have hto : TrO P nt ops ops[n] ⟨d, none, op0⟩ := hts.get (by simp) hcn
    obtain ⟨hop, hdd, hltx, hg⟩ := hto
    simp only at hop hdd hg
    have hog : ops[n].guard = none := by
      generalize ops[n].guard = og at hg
      cases hg; rfl
    have hmask : maskS (fun j => listed.getD j false) 0 Ns = Ns.flatten := maskS_full fun j N hN hs => by
      rw [Nat.zero_add] at hs
      have hjn : j < n := by
        have h1 := (List.getElem?_eq_some_iff.1 hN).1
        rw [r2] at h1; exact h1
      obtain ⟨_, _, _, _, q2, _⟩ := lateOk_get hlate j (hlat j hjn hs)
      rw [hN] at q2; cases q2; rfl
    have hst := hmi.st
    have hhr := hmi.hr
    rw [hmask] at hst hhr
    have hdom1 : ∀ id, (H ++ Ns.flatten).length ≤ id → μ1 id = none := fun id hid => by
      cases hmu : μ1 id with
      | none => rfl
      | some loc =>
        exfalso
        rw [List.length_append] at hid
        rcases hmi.dom id (by rw [hmu]; simp) with g | ⟨j, N, g1, g2, g3, g4⟩
        · omega
        · have hj : j < Ns.length := (List.getElem?_eq_some_iff.1 g2).1
          have hfl : startOf H Ns j + N.length ≤ H.length + Ns.flatten.length := by
            have hj2 : j + 1 ≤ Ns.length := hj
            have h1 : Ns.take (j + 1) = Ns.take j ++ [N] := by rw [List.take_add_one, g2]; rfl
            have h2 : Ns.flatten = (Ns.take (j + 1)).flatten ++ (Ns.drop (j + 1)).flatten := by rw [← List.flatten_append, List.take_append_drop]
            rw [h2, h1]
            unfold startOf
            simp only [List.flatten_append, List.length_append, List.flatten_cons, List.flatten_nil, List.append_nil]
            omega
          omega
    have hE : ER w1 I1 μ1 (keepEnv (topTmps op) e1) a1.tmps := fun t => by
      rcases keepEnv_in (l := topTmps op) (e := e1) t with ⟨g1, g2⟩ | g1
      · have hc : get e1 t = valS (fun j => listed.getD j false) t 0 (dvs ((ancs.zip tos).take n) R) (get e t) := by
          rw [r4 t]
          refine valS_congr fun j u hj => ?_
          rw [Nat.zero_add]
          obtain ⟨hjn, tj, k1, k2, k3⟩ := hD j _ _ hj
          cases hjl : listed.getD j false with
          | true => rfl
          | false => exact absurd g2 (F.sepa j tj t hjn k1 (hlat j hjn hjl) k2)
        rw [g1, hc]; exact hmi.env t
      · rw [g1]; exact .undef _ _
    obtain ⟨g1, g2⟩ := hset listed hsz n hlt0
    generalize hoo : ops[n] = o at ho hop hdd hltx hog hed
    have hM : MOk P o a1 w1 I1 μ1 (H ++ Ns.flatten) vc H3 := by
      cases hmid with
      | @call f tag ids as =>
        have hmap : as.map (ev (keepEnv (topTmps (.callM f tag ids as)) e1)) = as.map (ev e1) := List.map_congr_left fun x hx => ev_keep fun t ht => List.mem_flatMap.2 ⟨x, hx, ht⟩
        generalize hopp : o.op = oop at hop
        cases hop with
        | @call _ args ts _ hx =>
          have hvs : VRL w1 I1 μ1 (as.map (ev (keepEnv (topTmps (.callM f tag ids as)) e1))) (args.map a1.eval).toList := by simpa using hx.ok hE
          exact op_callM (o := o) (a := a1) hS.mrule hhr hdom1 (vs := args.map a1.eval) hvs (by rw [hmap]; exact hcall) fun hent => by simp [execOp, hopp, resolve, Act.eval, Deferred.ofValue, invoke, run_callFunc hent]
      | @store k x y =>
        generalize hopp : o.op = oop at hop
        simp only [runOp, Option.map_eq_some_iff, Prod.mk.injEq] at hcall
        obtain ⟨H4, c1, rfl, rfl⟩ := hcall
        cases hop with
        | store hi' hx hy =>
          refine op_store hopp hi' hx hy hhr hE hdom1 ?_
          have e1' : ∀ k, ev (keepEnv (topTmps (.store k x y)) e1) x = ev e1 x := fun k => ev_keep fun t ht => List.mem_append_left _ ht
          have e2' : ∀ k, ev (keepEnv (topTmps (.store k x y)) e1) y = ev e1 y := fun k => ev_keep fun t ht => List.mem_append_right _ ht
          rw [e1', e2']
          exact c1
    unfold wpOp
    rw [ho]
    simp only
    rw [if_pos (by unfold Region.wanted; rw [hog])]
    left
    refine hM _ _ fun vv w' I' μ' s1 s2 s3 s4 => ?_
    refine keyB m (listed.setIfInBounds n true) (by simpa using hsz) (fun j hj => ?_) ((g1 n).2 (.inr rfl)) (hclS listed hsz hcl n o ho hed) ?_ (fun j hj hjf => ?_) w' I' μ' _ (hst.trans s1) s2 s3 (fun t => ?_) ?_ ?_
    · rw [g2 j (by omega)]; exact hltl j (by omega)
    · rw [← hcnt]
      exact List.countP_congr fun j hj => by
        have : j < n := by simpa using hj
        rw [g2 j (by omega)]
    · rw [g2 j (by omega)] at hjf; exact hlat j hj hjf
    · have hsame : valS (fun j => (listed.setIfInBounds n true).getD j false) t 0 (dvs ((ancs.zip tos).take n) R) (get e t) = valS (fun j => listed.getD j false) t 0 (dvs ((ancs.zip tos).take n) R) (get e t) := valS_congr fun j u hj => by
        rw [Nat.zero_add]
        have := (hD j _ _ hj).1
        exact g2 j (by omega)
      rw [hsame, ← hdd]
      have old := s1.vr hhr (hmi.env t)
      cases d with
      | none => simpa [Act.put] using old
      | some y =>
        have hy : y < a1.tmps.size := Nat.lt_of_lt_of_le (hltx y hdd.symm) hmi.size
        simp only [Act.put, Option.some.injEq]
        by_cases hyt : y = t
        · subst hyt
          rw [if_pos rfl]
          simpa [hy] using s4
        · rw [if_neg hyt]
          rw [Array.getD_eq_getD_getElem?] at old ⊢
          rw [Array.getElem?_setIfInBounds_ne hyt]
          exact old
    · cases o.dst with
      | none => exact hmi.size
      | some x => simpa [Act.put] using hmi.size
    · cases o.dst <;> exact hmi.defers
  have keyA : ∀ (m : Nat) (listed : Array Bool), listed.size = ops.size → (∀ j, n ≤ j → listed.getD j false = false) → (∀ j o, ops[j]? = some o → listed.getD j false = true → ∀ k ∈ edges o, listed.getD k false = true) →
      (List.range n).countP (fun j => !listed.getD j false) = m → ∀ (w1 : World) (I1 : Nat → Nat → Prop) (μ1 : Mu) (a1 : Act),
      MI nt w I μ H Ns (fun j => listed.getD j false) (fun t => valS (fun j => listed.getD j false) t 0 (dvs ((ancs.zip tos).take n) R) (get e t)) w1 I1 μ1 a1 → wpAny P .any ops Q (m + (ops.size - n)) listed a1 w1 := by
    intro m
    induction m with
    | zero =>
      intro listed hsz hltl hcl hcnt w1 I1 μ1 a1 hmi
      rw [show 0 + (ops.size - n) = (0 + (ops.size - (n + 1))) + 1 by omega]
      refine ⟨fun h0 => ?_, fun i hr => ?_⟩
      · exfalso
        obtain ⟨i, hi', _⟩ := least listed hsz n (Nat.le_refl _) (hltl n (Nat.le_refl _))
        rw [h0] at hi'; cases hi'
      · obtain ⟨o, ho, hil, hun, hed, han⟩ := hready listed hsz hcl i hr
        have hin : i = n := by
          rcases Nat.lt_trichotomy i n with h | h | h
          · have := List.countP_eq_zero.1 hcnt i (by simpa using h)
            rw [hun] at this; simp at this
          · exact h
          · have := han n (F.tail i h hil n (Nat.le_refl _))
            rw [hltl n (Nat.le_refl _)] at this; cases this
        subst hin
        have hoe : o = ops[i] := by rw [Array.getElem?_eq_getElem hil] at ho; exact (Option.some.inj ho).symm
        subst hoe
        exact callStep 0 listed hsz hltl hcl hcnt hed han w1 I1 μ1 a1 hmi
    | succ m ih =>
      intro listed hsz hltl hcl hcnt w1 I1 μ1 a1 hmi
      rw [show m + 1 + (ops.size - n) = (m + 1 + (ops.size - (n + 1))) + 1 by omega]
      refine ⟨fun h0 => ?_, fun i hr => ?_⟩
      · exfalso
        obtain ⟨i, hi', _⟩ := least listed hsz n (Nat.le_refl _) (hltl n (Nat.le_refl _))
        rw [h0] at hi'; cases hi'
      · obtain ⟨o, ho, hil, hun, hed, han⟩ := hready listed hsz hcl i hr
        rcases Nat.lt_trichotomy i n with hin | hin | hin
        · obtain ⟨an, to, v, N, h1, h2, h3, h4, h5⟩ := hl i hin
          obtain ⟨v', N', ei, k1, k2, k3, k4⟩ := r5 i an to h3
          rw [h4] at k1; cases k1
          rw [h5] at k2; cases k2
          have hto : TrO P nt ops o to := hts.get (by simpa using ho) h2
          have hanE : ancs.getD i [] = an := by rw [List.getD_eq_getElem?_getD, h1]; rfl
          obtain ⟨g1, g2⟩ := hset listed hsz i hil
          have hgets : ∀ t, t ∈ toTmps to → get ei t = valS (fun j => listed.getD j false) t 0 (dvs ((ancs.zip tos).take n) R) (get e t) := fun t ht => by
            rw [k3 t, valS_take]
            refine valS_congr fun j u hj => ?_
            rw [Nat.zero_add]
            obtain ⟨hjn, tj, q1, q2, q3⟩ := hD j _ _ hj
            obtain ⟨p1, p2⟩ := (F.head i o to j tj t hin ho h2 hjn q1 q2).1 ht
            rw [hed j p2]
            simpa using F.edge i o ho j p2
          refine hmi.step (sel' := fun j => (listed.setIfInBounds i true).getD j false) (val' := fun t => valS (fun j => (listed.setIfInBounds i true).getD j false) t 0 (dvs ((ancs.zip tos).take n) R) (get e t)) hS ho hto h5 hun (fun j hj => han j (by rw [hanE]; exact hj)) hgets k4 g1
            (hvalS listed hsz i an to v o hin ho h2 h3 h4) fun a' w' I' μ' hmi' => ?_
          rw [show m + 1 + (ops.size - (n + 1)) = m + (ops.size - n) by omega]
          refine ih (listed.setIfInBounds i true) (by simpa using hsz) (fun j hj => ?_) (hclS listed hsz hcl i o ho hed) (hcntS listed hsz i m hin hun hcnt) w' I' μ' a' hmi'
          rw [g2 j (by omega)]; exact hltl j hj
        · subst hin
          have hoe : o = ops[i] := by rw [Array.getElem?_eq_getElem hil] at ho; exact (Option.some.inj ho).symm
          subst hoe
          exact callStep (m + 1) listed hsz hltl hcl hcnt hed han w1 I1 μ1 a1 hmi
        · exfalso
          have := han n (F.tail i hin hil n (Nat.le_refl _))
          rw [hltl n (Nat.le_refl _)] at this; cases this
  refine wp_region_any hm ?_
  have hr0 : (Array.replicate ops.size false).size = ops.size := by simp
  have hgf : ∀ j, (Array.replicate ops.size false).getD j false = false := fun j => by
    rw [Array.getD_eq_getD_getElem?, Array.getElem?_replicate]
    split <;> rfl
  have hcnt : (List.range n).countP (fun j => !(Array.replicate ops.size false).getD j false) = n := by
    have : (List.range n).countP (fun j => !(Array.replicate ops.size false).getD j false) = (List.range n).length := List.countP_eq_length.2 fun j _ => by rw [hgf j]; rfl
    rw [this]; simp
  have hfin := keyA n (Array.replicate ops.size false) hr0 (fun j _ => hgf j) (fun j o _ hj => by rw [hgf j] at hj; cases hj) hcnt w.drew I μ a ?_
  · rw [show n + (ops.size - n) = ops.size by have := F.len; omega] at hfin
    exact hfin
  · have hx := Ext.drew w
    have hrd : HR w.drew I μ (look H) := hi.hr.ext hx (fun _ _ h => h) (fun _ _ h => .inl h) hi.hr.lt
    have hsub : ∀ id sz l, look (H ++ maskS (fun j => (Array.replicate ops.size false).getD j false) 0 Ns) id = .live sz l → look H id = .live sz l := fun id sz l hl => by
      by_cases hid : id < H.length
      · rw [look_mask_old hid] at hl; exact hl
      · exfalso
        rw [look_mask_new (by omega), List.getD_eq_getElem?_getD] at hl
        cases hq : (maskS (fun j => (Array.replicate ops.size false).getD j false) 0 Ns)[id - H.length]? with
        | none => rw [hq] at hl; cases hl
        | some b => rw [hq] at hl; simp at hl; subst hl; exact maskS_dead hgf hq
    obtain ⟨q1, q2⟩ := hrd.sub hsub
    refine ⟨⟨hx.step _, fun _ _ h => h, fun _ _ h => .inl (.inl h), Mu.le_refl _, fun b k h => .inl (q2 b k h)⟩, q1, fun id hne => .inl ?_, fun t => ?_, hi.size, hi.defers⟩
    · rcases Nat.lt_or_ge id H.length with h | h
      · exact h
      · exact absurd (hi.dom id h) hne
    · rw [valS_none fun j v _ => by rw [Nat.zero_add]; exact hgf j]
      exact (hi.env t).mono (hx.same I) (fun _ _ h => h) _ (Mu.le_refl _)
end
end Go.Proofs.TM
