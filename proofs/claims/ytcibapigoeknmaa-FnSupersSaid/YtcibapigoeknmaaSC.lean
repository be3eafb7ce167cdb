import Derived.Test.YtcibapigoeknmaaSB
namespace Go.Proofs.TM
open Go Go.Proofs
set_option linter.unusedVariables false
set_option linter.unusedSimpArgs false
set_option maxHeartbeats 1000000
theorem shr8 (n j : Nat) (h : 8 * j ≤ 64) : shrV .i64 (n : Int) (8 * (j : Int)) = ((n / 256 ^ j : Nat) : Int) := by
 unfold shrV
 rw [show min (8 * (j : Int)).toNat IntKind.i64.bits = 8 * j by show min (8 * (j : Int)).toNat 64 = 8 * j; omega, pow256]
 rw [Int.fdiv_eq_ediv_of_nonneg _ (Int.natCast_nonneg _)]
 exact (Int.natCast_ediv _ _).symm
theorem leN_leB (n : Nat) : ∀ k : Nat, k ≤ 8 → leN (leB (n : Int) k) = n % 256 ^ k
 | 0, _ => by simp [leB, leN]; omega
 | k + 1, hk => by
  have e : leB (n : Int) (k + 1) = leB (n : Int) k ++ [(byB (n : Int) k).v] := by simp [leB, List.range_succ]
  rw [e, leN_append, leN_leB n k (by omega), leB_length]
  have hb : ((byB (n : Int) k).v).toNat = n / 256 ^ k % 256 := by
   unfold byB
   rw [shr8 n k (by omega)]
   have : (((n / 256 ^ k : Nat) : Int) % 256).toNat = n / 256 ^ k % 256 := by omega
   rw [this]
   simp
  rw [show leN [(byB (n : Int) k).v] = n / 256 ^ k % 256 by simp [leN, hb]]
  rw [Nat.pow_succ, Nat.mod_mul]
theorem rawS_enc (s : DSuper) (h : SuperV s) : rawS (encS s) = s := by
 obtain ⟨h1, h2, h3, h4, h5, h6, h7, h8, h9⟩ := h
 obtain ⟨a, b, c, d⟩ := s
 simp only at h1 h2 h3 h4 h5 h6 h7 h8 h9
 obtain ⟨a, rfl⟩ : ∃ n : Nat, a = n := ⟨a.toNat, by omega⟩
 obtain ⟨b, rfl⟩ : ∃ n : Nat, b = n := ⟨b.toNat, by omega⟩
 obtain ⟨c, rfl⟩ : ∃ n : Nat, c = n := ⟨c.toNat, by omega⟩
 obtain ⟨d, rfl⟩ : ∃ n : Nat, d = n := ⟨d.toNat, by omega⟩
 have cut : ∀ (p q r : Str) (i k : Nat), p.length = i → q.length = k → ((p ++ (q ++ r)).drop i).take k = q := fun p q r i k hp hq => by
  rw [List.drop_left' hp, List.take_left' hq]
 have e : encS ((a : Int), (b : Int), (c : Int), (d : Int)) = [65, 82, 82, 83] ++ (leB 1 1 ++ (leB a 2 ++ (leB b 2 ++ (leB c 8 ++ (leB d 8 ++ (List.replicate 7 0 ++ halfS ((a : Int), (b : Int), (c : Int), (d : Int)))))))) := by
  simp [encS, halfS]
 have c1 : ((encS ((a : Int), (b : Int), (c : Int), (d : Int))).drop 5).take 2 = leB a 2 := by
  rw [e, show [65, 82, 82, 83] ++ (leB 1 1 ++ (leB a 2 ++ (leB b 2 ++ (leB c 8 ++ (leB d 8 ++ (List.replicate 7 0 ++ halfS ((a : Int), (b : Int), (c : Int), (d : Int)))))))) = ([65, 82, 82, 83] ++ leB 1 1) ++ (leB a 2 ++ (leB b 2 ++ (leB c 8 ++ (leB d 8 ++ (List.replicate 7 0 ++ halfS ((a : Int), (b : Int), (c : Int), (d : Int))))))) by simp]
  exact cut _ _ _ 5 2 (by simp) (by simp)
 have c2 : ((encS ((a : Int), (b : Int), (c : Int), (d : Int))).drop 7).take 2 = leB b 2 := by
  rw [e, show [65, 82, 82, 83] ++ (leB 1 1 ++ (leB a 2 ++ (leB b 2 ++ (leB c 8 ++ (leB d 8 ++ (List.replicate 7 0 ++ halfS ((a : Int), (b : Int), (c : Int), (d : Int)))))))) = ([65, 82, 82, 83] ++ leB 1 1 ++ leB a 2) ++ (leB b 2 ++ (leB c 8 ++ (leB d 8 ++ (List.replicate 7 0 ++ halfS ((a : Int), (b : Int), (c : Int), (d : Int)))))) by simp]
  exact cut _ _ _ 7 2 (by simp) (by simp)
 have c3 : ((encS ((a : Int), (b : Int), (c : Int), (d : Int))).drop 9).take 8 = leB c 8 := by
  rw [e, show [65, 82, 82, 83] ++ (leB 1 1 ++ (leB a 2 ++ (leB b 2 ++ (leB c 8 ++ (leB d 8 ++ (List.replicate 7 0 ++ halfS ((a : Int), (b : Int), (c : Int), (d : Int)))))))) = ([65, 82, 82, 83] ++ leB 1 1 ++ leB a 2 ++ leB b 2) ++ (leB c 8 ++ (leB d 8 ++ (List.replicate 7 0 ++ halfS ((a : Int), (b : Int), (c : Int), (d : Int))))) by simp]
  exact cut _ _ _ 9 8 (by simp) (by simp)
 have c4 : ((encS ((a : Int), (b : Int), (c : Int), (d : Int))).drop 17).take 8 = leB d 8 := by
  rw [e, show [65, 82, 82, 83] ++ (leB 1 1 ++ (leB a 2 ++ (leB b 2 ++ (leB c 8 ++ (leB d 8 ++ (List.replicate 7 0 ++ halfS ((a : Int), (b : Int), (c : Int), (d : Int)))))))) = ([65, 82, 82, 83] ++ leB 1 1 ++ leB a 2 ++ leB b 2 ++ leB c 8) ++ (leB d 8 ++ (List.replicate 7 0 ++ halfS ((a : Int), (b : Int), (c : Int), (d : Int)))) by simp]
  exact cut _ _ _ 17 8 (by simp) (by simp)
 have n1 := leN_leB a 2 (by omega)
 have n2 := leN_leB b 2 (by omega)
 have n3 := leN_leB c 8 (by omega)
 have n4 := leN_leB d 8 (by omega)
 rw [Nat.mod_eq_of_lt (by omega)] at n1 n2 n3 n4
 unfold rawS
 rw [c1, c2, c3, c4, n1, n2, n3, n4, wrap_in (by omega) (by omega), wrap_in (by omega) (by omega), wrap_in (by omega) (by omega), wrap_in (by omega) (by omega)]
theorem decS_enc (s : DSuper) (h : SuperV s) : decS (encS s) = (s, true) := by
 unfold decS
 rw [rawS_enc s h, if_pos ⟨h, rfl⟩]
theorem decS_true {b : Str} (h : (decS b).2 = true) : SuperV (decS b).1 ∧ encS (decS b).1 = b := by
 unfold decS at *
 split
 ·rename_i q; exact q
 ·rename_i q; rw [if_neg q] at h; cases h
def Twin (b : Str) : Prop := ∃ p : Str, p.length = 32 ∧ b = p ++ p
theorem twin_enc (s : DSuper) : Twin (encS s) := ⟨halfS s, halfS_length s, rfl⟩
theorem torn (e o : Str) (he : Twin e) (ho : Twin o) (n : Nat) (hn : n ≤ 64) (hm : Twin (e.take n ++ o.drop n)) : e.take n ++ o.drop n = e ∨ e.take n ++ o.drop n = o := by
 obtain ⟨p, hp, rfl⟩ := he
 obtain ⟨q, hq, rfl⟩ := ho
 obtain ⟨r, hr, hm⟩ := hm
 by_cases h : n ≤ 32
 ·right
  have e1 : (p ++ p).take n ++ (q ++ q).drop n = ((p ++ p).take n ++ q.drop n) ++ q := by
   rw [List.drop_append_of_le_length (by omega), List.append_assoc]
  rw [e1] at hm ⊢
  have hl : ((p ++ p).take n ++ q.drop n).length = r.length := by simp; omega
  obtain ⟨h1, h2⟩ := List.append_inj hm hl
  rw [h1, h2]
 ·left
  have e1 : (p ++ p).take n ++ (q ++ q).drop n = p ++ (p.take (n - 32) ++ (q ++ q).drop n) := by
   rw [List.take_append, List.take_of_length_le (by omega), hp, List.append_assoc]
  rw [e1] at hm ⊢
  obtain ⟨h1, h2⟩ := List.append_inj hm (by omega)
  rw [h2, h1]
end Go.Proofs.TM
namespace Go.Proofs.TM
open Go Go.Proofs
set_option linter.unusedVariables false
set_option linter.unusedSimpArgs false
set_option maxHeartbeats 1000000
open Classical in
theorem superFits_out2 (d : DDisk) (s : DSuper) : impl_superFits d s = some (@decide (DiskV d ∧ SuperV s ∧ s.1 = (d.1.length : Int)) (Classical.propDecidable _)) := by
 unfold impl_superFits
 simp only [ValidDisk_out, iValidSuper_out, Option.bind_some, decide_eq_true_eq]
 split
 ·split
  ·exact dI (by simp_all)
  ·exact dF (by simp_all)
 ·exact dF (by simp_all)
theorem wsuper (b : List Str) (f : Int) (s : DSuper) (hd : DiskV (b, [], f, false)) (hs : SuperV s) (hl : s.1 = (b.length : Int)) (hf : f < 0) :
  impl_WriteSuper (b, [], f, false) s = some ((b, [(Int.tmod s.2.2.2 2, encS s)], f, false), 0) := by
 have hb : b.length ≤ 256 := by have := hd.2.1; simp only at this; omega
 unfold impl_WriteSuper
 rw [superFits_out2, Option.bind_some, if_neg (by simp only [deq]; exact fun h => h ⟨hd, hs, hl⟩)]
 unfold impl_Disk_clone slices_Clone_impl_Put_impl_Put_ slices_Clone_string_string_
 rw [appL_nil 16 _ (by unfold maxRow; simp only; omega), appL_nil 24 _ (by unfold maxRow; simp only [List.length_nil]; omega)]
 simp only [Option.bind_some, impl_Disk_writeSuper_o49, encode_out, impl_Disk_write_oe4, impl_Disk_power_o5d]
 rw [if_neg (by simp), if_neg (by omega), if_neg (by omega)]
 have happ : appL 24 ([] : List (Int × Str)) (lit [(Int.tmod s.2.2.2 2, encS s)]) = some [(Int.tmod s.2.2.2 2, encS s)] := by unfold appL lit; rw [if_pos (by simp [maxRow])]; rfl
 simp [happ, impl_powered_o3e]
theorem b10At_out (c : List Bt) (i n : Int) (h0 : 0 ≤ i) (h1 : i ≤ 1000) (hn : n ≤ 1000) : ∃ r, laws_b10At c i n = some r ∧ 0 ≤ r ∧ (r < n ∨ r = 0) := by
 unfold laws_b10At
 by_cases h : n ≤ 1
 ·rw [if_pos h]; exact ⟨0, rfl, by omega, .inr rfl⟩
 rw [if_neg h]
 have tm : ∀ v : Int, 0 ≤ v → 0 ≤ Int.tmod v n ∧ Int.tmod v n < n := fun v hv => by
  rw [Int.tmod_eq_emod_of_nonneg hv]
  exact ⟨Int.emod_nonneg _ (by omega), Int.emod_lt_of_pos _ (by omega)⟩
 by_cases h2 : i < (c.length : Int)
 ·rw [if_pos h2, if_pos h0]
  obtain ⟨x, hx⟩ := get_at (l := c) (i := i.toNat) (by omega)
  rw [hx, Option.bind_some, if_neg (by omega)]
  have hb : (x.v.toNat : Int) ≤ 255 := by have := x.v.toNat_lt; omega
  rw [wrap_in (n := (x.v.toNat : Int)) (by omega) (by omega)]
  have := tm x.v.toNat (by omega)
  exact ⟨_, rfl, this.1, .inl this.2⟩
 ·rw [if_neg h2, if_neg (by omega), wrap_in (n := i * 37) (by omega) (by omega), wrap_in (by omega) (by omega)]
  have := tm (i * 37 + 11) (by omega)
  exact ⟨_, rfl, this.1, .inl this.2⟩
theorem afterCut_out (b : List Str) (k : Nat) (e o : Str) (f : Int) (kept : Bool) (t n : Int) (hk : b[k]? = some o) (he : e.length = 64) (ho : o.length = 64) (hn : 0 ≤ n ∧ n ≤ 64) (hb : b.length ≤ 256) :
  ∃ m : Nat, m ≤ 64 ∧ impl_Disk_afterCut (b, [((k : Int), e)], f, false) [kept] t n = some (b.set k (e.take m ++ o.drop m), -1, false) := by
 have hlt := (List.getElem?_eq_some_iff.1 hk).1
 have p2 : ∀ (m : Nat) (v15 : List Bool) (v16 v17 v18 : Int) (v19 : Bool) (v21 : Int) (v22 : Bool) (v25 : List (Int × Str)) (v26 v27 : Int), m ≤ 64 → impl_Disk_afterCut_p2 v15 v16 v17 v18 v19 b v21 v22 ((k : Int), e) m v25 v26 v27 = some (v15, v16, v17, v18, v19, b.set k (e.take m ++ o.drop m), v21, v22, v25, v26, v27) := fun m v15 v16 v17 v18 v19 v21 v22 v25 v26 v27 hm => by
  unfold impl_Disk_afterCut_p2
  simp only
  rw [subL_to e m (by omega), Option.bind_some, if_pos (by omega), Int.toNat_natCast, hk, Option.bind_some, subL_from o m (by omega), Option.bind_some, if_pos (by simp; omega), if_pos (by omega), Option.bind_some]
 have fin : ∀ (m : Nat), m ≤ 64 → impl_Disk_afterCut_l1_b [kept] t n 0 false b (-1) false [((k : Int), e)] 1 0 = some (.inl ([kept], t, n, 0, false, b.set k (e.take m ++ o.drop m), -1, false, [((k : Int), e)], 1, 1)) → impl_Disk_afterCut (b, [((k : Int), e)], f, false) [kept] t n = some (b.set k (e.take m ++ o.drop m), -1, false) := fun m hm hs => by
  unfold impl_Disk_afterCut slices_Clone_string_string_ impl_Disk_afterCut_l1
  simp only
  rw [appL_nil 16 _ (by unfold maxRow; omega), Option.bind_some]
  rw [show ((([((k : Int), e)] : List (Int × Str)).length : Nat) : Int) = 1 from rfl]
  rw [loopO_inl (s' := ([kept], t, n, 0, false, b.set k (e.take m ++ o.drop m), -1, false, [((k : Int), e)], 1, 1)) hs]
  rw [loopO_inr (r := (0, false, b.set k (e.take m ++ o.drop m), -1, false)) (by simp [impl_Disk_afterCut_l1_b])]
  rfl
 have k1 : IntKind.i64.wrap (0 + 1) = 1 := by decide
 have q64 := p2 64 [kept] t n 0 false (-1) false [((k : Int), e)] 1 0 (by omega)
 have q0 := p2 0 [kept] t n 0 false (-1) false [((k : Int), e)] 1 0 (by omega)
 by_cases ht : (0 : Int) = t
 ·refine ⟨n.toNat, by omega, fin n.toNat (by omega) ?_⟩
  have qn := p2 n.toNat [kept] t n 0 false (-1) false [((k : Int), e)] 1 0 (by omega)
  rw [show ((n.toNat : Nat) : Int) = n by omega] at qn
  unfold impl_Disk_afterCut_l1_b
  rw [if_pos (by omega), if_pos (by omega), show ([((k : Int), e)] : List (Int × Str))[(0 : Int).toNat]? = some ((k : Int), e) from rfl, Option.bind_some, if_pos ht, qn, Option.bind_some, k1]
 ·cases kept with
  | true =>
   refine ⟨64, by omega, fin 64 (by omega) ?_⟩
   unfold impl_Disk_afterCut_l1_b
   rw [if_pos (by omega), if_pos (by omega), show ([((k : Int), e)] : List (Int × Str))[(0 : Int).toNat]? = some ((k : Int), e) from rfl, Option.bind_some, if_neg ht, if_pos (by omega), show ([true] : List Bool)[(0 : Int).toNat]? = some true from rfl, Option.bind_some, if_pos rfl]
   rw [show ((64 : Nat) : Int) = 64 from rfl] at q64
   rw [q64, Option.bind_some, k1]
  | false =>
   refine ⟨0, by omega, fin 0 (by omega) ?_⟩
   unfold impl_Disk_afterCut_l1_b
   rw [if_pos (by omega), if_pos (by omega), show ([((k : Int), e)] : List (Int × Str))[(0 : Int).toNat]? = some ((k : Int), e) from rfl, Option.bind_some, if_neg ht, if_pos (by omega), show ([false] : List Bool)[(0 : Int).toNat]? = some false from rfl, Option.bind_some, if_neg (by simp)]
   rw [show ((0 : Nat) : Int) = 0 from rfl] at q0
   rw [q0, Option.bind_some, k1]
theorem b10Cut_out (b : List Str) (k : Nat) (e o : Str) (f : Int) (more : List Bt) (hd : DiskV (b, [((k : Int), e)], f, false)) (hk : b[k]? = some o) :
  ∃ m : Nat, m ≤ 64 ∧ laws_b10Cut (b, [((k : Int), e)], f, false) more = some (b.set k (e.take m ++ o.drop m), -1, false) := by
 have hd' := hd
 obtain ⟨a1, a2, a3, a4, a5, a6, a7⟩ := hd'
 simp only at a1 a2 a6 a7
 have he := (a7 _ (List.mem_singleton.2 rfl)).2.2
 have ho := a6 o (List.mem_of_getElem? hk)
 obtain ⟨r2, e2, _, _⟩ := b10At_out more 2 2 (by omega) (by omega) (by omega)
 obtain ⟨r0, e0, l0, u0⟩ := b10At_out more 0 2 (by omega) (by omega) (by omega)
 obtain ⟨r1, e1, l1, u1⟩ := b10At_out more 1 65 (by omega) (by omega) (by omega)
 obtain ⟨m, hm, hc⟩ := afterCut_out b k e o f (decide (r2 = 1)) (r0 - 1) r1 hk he ho (by omega) (by omega)
 refine ⟨m, hm, ?_⟩
 have w2 : IntKind.i64.wrap (0 + 2) = 2 := by decide
 have w3 : IntKind.i64.wrap (0 + 1) = 1 := by decide
 have w4 : IntKind.i64.wrap (1 + 1) = 2 := by decide
 have w5 : IntKind.i64.wrap (1 - 1) = 0 := by decide
 unfold laws_b10Cut laws_b10Cut_l1
 simp only
 rw [show ((([((k : Int), e)] : List (Int × Str)).length : Nat) : Int) = 1 from rfl]
 rw [show mkL 1 1 1 false = some [false] from mkL_ok 1 1 false (by decide) (by decide), Option.bind_some]
 rw [loopO_inl (s' := ([decide (r2 = 1)], 1)) (by
  simp only [laws_b10Cut_l1_b]
  rw [if_pos (by omega), w2, e2, Option.bind_some, if_pos (by simp), show ([false] : List Bool)[(0 : Int).toNat]? = some false from rfl, Option.bind_some, w3]
  rfl)]
 rw [loopO_inr (r := (more, (b, [((k : Int), e)], f, false), 0, false, 1, [decide (r2 = 1)])) (by simp [laws_b10Cut_l1_b]), Option.bind_some]
 simp only
 rw [w4, e0, Option.bind_some, e1, Option.bind_some, wrap_in (n := r0 - 1) (by omega) (by omega)]
 unfold impl_CutPower
 rw [ValidDisk_out, Option.bind_some, if_neg (by simp only [deq]; exact fun h => h hd)]
 have hok : impl_Disk_cutOk (b, [((k : Int), e)], f, false) [decide (r2 = 1)] (r0 - 1) r1 = some true := by
  unfold impl_Disk_cutOk
  simp only
  rw [if_pos (by simp), show ((([((k : Int), e)] : List (Int × Str)).length : Nat) : Int) - 1 = 1 - 1 from rfl, w5, within_out, Option.bind_some, if_pos (by simp; omega), within_out, Option.bind_some]
  simp; omega
 rw [hok, Option.bind_some, if_neg (by simp), hc]
 rfl
theorem slot_of {D : DDisk} {k : Int} {s : DSuper} (h : decS (rdD D k) = (s, true)) (h1 : s.1 = (D.1.length : Int)) (h2 : Int.tmod s.2.2.2 2 = k) : slotS D k = (s, true) := by
 unfold slotS; rw [h, if_pos ⟨rfl, h1, h2⟩]
theorem slot_inv {D : DDisk} {k : Int} {s : DSuper} (h : slotS D k = (s, true)) : decS (rdD D k) = (s, true) ∧ s.1 = (D.1.length : Int) ∧ Int.tmod s.2.2.2 2 = k := by
 unfold slotS at h
 split at h
 ·rename_i q
  have h1 := (Prod.mk.inj h).1
  exact ⟨by rw [← h1]; exact Prod.ext rfl q.1, by rw [← h1]; exact q.2.1, by rw [← h1]; exact q.2.2⟩
 ·cases (Prod.mk.inj h).2
theorem slot_no {D : DDisk} {k : Int} (h : (decS (rdD D k)).2 = false) : (slotS D k).2 = false := by
 unfold slotS; rw [if_neg (by simp [h])]
def Two (k0 k1 : Int) : Prop := (k0 = 0 ∧ k1 = 1) ∨ (k0 = 1 ∧ k1 = 0)
theorem cho_up {D : DDisk} {k0 k1 : Int} (hk : Two k0 k1) {s n : DSuper} (h0 : slotS D k0 = (s, true)) (h1 : slotS D k1 = (n, true)) (hlt : s.2.2.2 < n.2.2.2) : choS D = (n, true) := by
 unfold choS
 rcases hk with ⟨rfl, rfl⟩ | ⟨rfl, rfl⟩
 ·rw [h0, h1, if_neg (by simp; exact hlt)]
 ·rw [h0, h1, if_pos (by simp; omega)]
theorem cho_no {D : DDisk} {k0 k1 : Int} (hk : Two k0 k1) {s : DSuper} (h0 : slotS D k0 = (s, true)) (h1 : (slotS D k1).2 = false) : choS D = (s, true) := by
 unfold choS
 rcases hk with ⟨rfl, rfl⟩ | ⟨rfl, rfl⟩
 ·rw [h0, if_pos (by simp [h1])]
 ·rw [h0, if_neg (by simp [h1])]
theorem cho_inv {D : DDisk} {s : DSuper} (h : choS D = (s, true)) : ∃ k0 k1, Two k0 k1 ∧ slotS D k0 = (s, true) := by
 unfold choS at h
 split at h
 ·exact ⟨0, 1, .inl ⟨rfl, rfl⟩, h⟩
 ·exact ⟨1, 0, .inr ⟨rfl, rfl⟩, h⟩
theorem cho_same {D E : DDisk} (h : ∀ k, rdD D k = rdD E k) (hl : D.1.length = E.1.length) : choS D = choS E := by
 have hs : ∀ k, slotS D k = slotS E k := fun k => by unfold slotS; rw [h k, hl]
 unfold choS; rw [hs 0, hs 1]
theorem outC_of {D : DDisk} {s : DSuper} (hd : DiskV D) (h : choS D = (s, true)) : outC D = (s, 0) := by
 unfold outC; rw [if_pos hd, h]; rfl
theorem rd_none (b : List Str) (f : Int) (g : Bool) (k : Int) : rdD (b, [], f, g) k = b.getD k.toNat [] := rfl
theorem rd_one (b : List Str) (f : Int) (g : Bool) (k j : Int) (e : Str) : rdD (b, [(j, e)], f, g) k = if j = k then e else b.getD k.toNat [] := by
 unfold rdD
 by_cases h : j = k <;> simp [h]
theorem p1_true (b : List Str) (f : Int) (more : List Bt) (s : DSuper) (k0 : Int) (k1 : Nat) (o : Str) (hd : DiskV (b, [], f, false)) (hf : f < 0) (hk : Two k0 k1) (hs : slotS (b, [], f, false) k0 = (s, true)) (hch : choS (b, [], f, false) = (s, true))
  (ht : s.2.2.2 < 1000000000000) (hk1 : Int.tmod (s.2.2.2 + 1) 2 = k1) (ho : b[k1]? = some o) (hO : Twin o) : laws_FnSupers_p1 more (b, [], f, false) s true = some true := by
 have hd' := hd
 obtain ⟨a1, a2, a3, a4, a5, a6, a7⟩ := hd'
 simp only at a1 a2 a4 a5 a6
 obtain ⟨g1, g2, g3⟩ := slot_inv hs
 obtain ⟨g4, g5⟩ := decS_true (b := rdD (b, [], f, false) k0) (by rw [g1])
 rw [g1] at g4 g5
 simp only at g4 g5
 have g4' := g4
 obtain ⟨v1, v2, v3, v4, v5, v6, v7, v8, v9⟩ := g4'
 obtain ⟨r, e1, l1, u1⟩ := b10At_out more 70 9 (by omega) (by omega) (by omega)
 have hlt := (List.getElem?_eq_some_iff.1 ho).1
 have ol := a6 o (List.mem_of_getElem? ho)
 unfold laws_FnSupers_p1
 rw [if_neg (by simp), e1, Option.bind_some, wrap_in (n := s.2.2.1 + r) (by omega) (by omega), wrap_in (n := s.2.2.2 + 1) (by omega) (by omega)]
 generalize hN : ((s.1, s.2.1, (min 1000000000000 (s.2.2.1 + r)), s.2.2.2 + 1) : DSuper) = nx
 have n1 : nx.1 = s.1 := by rw [← hN]
 have n2 : nx.2.1 = s.2.1 := by rw [← hN]
 have n3 : nx.2.2.1 = min 1000000000000 (s.2.2.1 + r) := by rw [← hN]
 have n4 : nx.2.2.2 = s.2.2.2 + 1 := by rw [← hN]
 have hnx : SuperV nx := by
  refine ⟨by rw [n1]; exact v1, by rw [n1]; exact v2, by rw [n2]; exact v3, by rw [n2]; exact v4, by rw [n1, n2]; exact v5, by rw [n3]; omega, by rw [n3]; omega, by rw [n4]; omega, by rw [n4]; omega⟩
 rw [wsuper b f nx hd hnx (by rw [n1]; exact g2) hf, Option.bind_some, if_neg (by simp)]
 simp only
 rw [n4, hk1]
 have hdx : DiskV (b, [((k1 : Int), encS nx)], f, false) := ⟨a1, a2, by simp, a4, a5, a6, fun x hx => by
  simp only [List.mem_singleton] at hx; subst hx; exact ⟨by simp only; omega, by simp only; omega, encS_length nx⟩⟩
 obtain ⟨m, hm, hc⟩ := b10Cut_out b k1 (encS nx) o f more hdx ho
 rw [hc, Option.bind_some]
 simp only
 rw [impl_ChooseSuper_out, impl_ChooseSuper_out, Option.bind_some, Option.bind_some]
 have hml : ((encS nx).take m ++ o.drop m).length = 64 := by simp [encS_length]; omega
 have hd2 : DiskV (b.set k1 ((encS nx).take m ++ o.drop m), [], -1, false) := ⟨by simp only [List.length_set]; exact a1, by simp only [List.length_set]; exact a2, by simp, by simp only; omega, by simp only; omega, fun x hx => by
  rcases List.mem_or_eq_of_mem_set hx with q | q
  ·exact a6 x q
  ·rw [q]; exact hml, by simp⟩
 have hne : k0 ≠ (k1 : Int) := by rcases hk with ⟨q, q'⟩ | ⟨q, q'⟩ <;> omega
 have hk0 : 0 ≤ k0 ∧ k0 ≤ 1 := by rcases hk with ⟨q, q'⟩ | ⟨q, q'⟩ <;> omega
 -- the new superblock, where it lies whole
 have new : outC (b, [((k1 : Int), encS nx)], f, false) = (nx, 0) := by
  refine outC_of hdx (cho_up hk (s := s) ?_ (slot_of (by rw [rd_one, if_pos rfl]; exact decS_enc nx hnx) (by rw [n1]; exact g2) (by rw [n4]; exact hk1)) (by rw [n4]; omega))
  exact slot_of (by rw [rd_one, if_neg (fun q => hne q.symm), ← rd_none b f false k0]; exact g1) g2 g3
 have torn2 : outC (b.set k1 ((encS nx).take m ++ o.drop m), [], -1, false) = (s, 0) ∨ outC (b.set k1 ((encS nx).take m ++ o.drop m), [], -1, false) = (nx, 0) := by
  have r0 : rdD (b.set k1 ((encS nx).take m ++ o.drop m), [], -1, false) k0 = rdD (b, [], f, false) k0 := by
   rw [rd_none, rd_none, List.getD_eq_getElem?_getD, List.getD_eq_getElem?_getD, List.getElem?_set_ne (by omega)]
  have r1 : rdD (b.set k1 ((encS nx).take m ++ o.drop m), [], -1, false) k1 = (encS nx).take m ++ o.drop m := by
   rw [rd_none, List.getD_eq_getElem?_getD, Int.toNat_natCast, List.getElem?_set_self hlt]; rfl
  have s0 : slotS (b.set k1 ((encS nx).take m ++ o.drop m), [], -1, false) k0 = (s, true) := slot_of (by rw [r0]; exact g1) (by simp only [List.length_set]; exact g2) g3
  by_cases hdec : (decS ((encS nx).take m ++ o.drop m)).2 = true
  ·have htw : Twin ((encS nx).take m ++ o.drop m) := by
    have := (decS_true hdec).2; rw [← this]; exact twin_enc _
   rcases torn _ _ (twin_enc nx) hO m hm htw with q | q
   ·right
    refine outC_of hd2 (cho_up hk s0 (slot_of (by rw [r1, q]; exact decS_enc nx hnx) (by simp only [List.length_set]; rw [n1]; exact g2) (by rw [n4]; exact hk1)) (by rw [n4]; omega))
   ·left
    refine outC_of hd2 ?_
    rw [q, ← hch]
    have : b.set k1 o = b := by
     apply List.ext_getElem?
     intro j
     by_cases hj : k1 = j
     ·subst hj; rw [List.getElem?_set_self hlt, ho]
     ·rw [List.getElem?_set_ne hj]
    rw [this]
    exact cho_same (fun k => by rw [rd_none, rd_none]) rfl
  ·left
   exact outC_of hd2 (cho_no hk s0 (slot_no (by rw [r1]; simpa using hdec)))
 rw [new]
 have hnn : ((decide (nx.1 = s.1) && (decide (nx.2.1 = s.2.1) && (decide (nx.2.2.1 = min 1000000000000 (s.2.2.1 + r)) && decide (nx.2.2.2 = s.2.2.2 + 1))))) = true := by simp [n1, n2, n3, n4]
 rcases torn2 with q | q
 ·rw [q]; simp [n1, n2, n3, n4]
 ·rw [q]
  simp only [n1, n2, n3, n4]
  simp
theorem FnSupers_true (code more : List Bt) (h : Gd.ok code) (h' : Gd.ok more) : laws_FnSupers code more = some true := by
 unfold laws_FnSupers laws_b10Long
 simp only [Option.bind_some, decide_eq_true_eq]
 by_cases c1 : (code.length : Int) > 1048576
 ·rw [if_pos c1]
 rw [if_neg c1]
 by_cases c2 : (more.length : Int) > 1048576
 ·rw [if_pos c2]
 rw [if_neg c2]
 obtain ⟨d, hd⟩ := DrawChoose_out code
 rw [hd, Option.bind_some, spec_ChooseSuper_out, impl_ChooseSuper_out, Option.bind_some, Option.bind_some, if_neg (by simp), if_neg (by simp)]
 by_cases hc : (outC d).2 = 0
 case neg => rw [if_pos hc]
 rw [if_neg (by simpa using hc)]
 obtain ⟨hV, s, hch, hout⟩ : DiskV d ∧ ∃ s, choS d = (s, true) ∧ outC d = (s, 0) := by
  unfold outC at hc
  by_cases hV : DiskV d
  ·rw [if_pos hV] at hc
   by_cases hf : (choS d).2 = true
   ·exact ⟨hV, (choS d).1, Prod.ext rfl hf, by unfold outC; rw [if_pos hV, if_pos hf]⟩
   ·rw [if_neg hf] at hc; simp at hc
  ·rw [if_neg hV] at hc; simp at hc
 rw [hout]
 simp only
 by_cases c3 : s.2.2.2 ≥ 1000000000000
 ·rw [if_pos c3]
 rw [if_neg c3]
 obtain ⟨b, pe, f, off⟩ := d
 simp only
 by_cases c4 : ((pe.length : Nat) : Int) = 0
 case neg => rw [if_pos c4]
 rw [if_neg (by simpa using c4)]
 cases off with
 | true => rw [if_pos rfl]
 | false =>
  rw [if_neg (by simp)]
  by_cases c5 : f ≥ 0
  ·rw [if_pos c5]
  rw [if_neg c5]
  have hpe : pe = [] := List.eq_nil_of_length_eq_zero (by omega)
  subst hpe
  obtain ⟨k0, k1, hk, hs⟩ := cho_inv hch
  obtain ⟨g1, g2, g3⟩ := slot_inv hs
  have hsv := (decS_true (b := rdD (b, [], f, false) k0) (by rw [g1])).1
  rw [g1] at hsv
  obtain ⟨v1, v2, v3, v4, v5, v6, v7, v8, v9⟩ := hsv
  simp only at v8
  have hpad : spec_PadBytes ([] : Str) 64 = some (z64, true) := by
   unfold spec_PadBytes
   rw [if_neg (by simp), if_neg (by omega)]
   rw [show spec_l01Pad [] 64 = some z64 from by
    unfold spec_l01Pad
    rw [if_neg (by simp)]
    rw [show IntKind.i64.wrap (64 - ((([] : Str).length : Nat) : Int)) = ((64 : Nat) : Int) by decide, mkL_ok 1 64 (⟨0⟩ : Bt) (by decide) (by decide), Option.bind_some, if_pos (by simp)]
    rfl]
   rfl
  rw [hpad, Option.bind_some, wrap_in (n := s.2.2.2 + 1) (by omega) (by omega)]
  have hk1 : Int.tmod (s.2.2.2 + 1) 2 = k1 := by
   rw [Int.tmod_eq_emod_of_nonneg v8] at g3
   rw [Int.tmod_eq_emod_of_nonneg (by omega)]
   rcases hk with ⟨q, q'⟩ | ⟨q, q'⟩ <;> omega
  have hb := hV.1
  simp only at hb
  have hk1b : 0 ≤ k1 ∧ k1 ≤ 1 := by rcases hk with ⟨q, q'⟩ | ⟨q, q'⟩ <;> omega
  obtain ⟨n1, hn1⟩ : ∃ n : Nat, k1 = n := ⟨k1.toNat, by omega⟩
  subst hn1
  obtain ⟨o, ho⟩ := get_at (l := b) (i := n1) (by omega)
  rw [hk1, if_pos (by omega), Int.toNat_natCast, ho, Option.bind_some]
  have go : Twin o → laws_FnSupers_p1 more (b, [], f, false) s true = some true := fun hO => p1_true b f more s k0 n1 o hV (by omega) hk hs hch (by omega) hk1 ho hO
  have no : laws_FnSupers_p1 more (b, [], f, false) s false = some true := by unfold laws_FnSupers_p1; rw [if_pos (by simp)]
  by_cases hz : o = z64
  ·rw [if_neg (by simpa using hz)]
   simp only
   rw [go ⟨List.replicate 32 0, by simp, by rw [hz]; decide⟩]; rfl
  ·rw [if_pos hz, sDecode_out o (hV.2.2.2.2.2.1 o (List.mem_of_getElem? ho)), Option.bind_some]
   cases hdec : (decS o).2 with
   | true =>
    rw [go (by have := (decS_true hdec).2; rw [← this]; exact twin_enc _)]; rfl
   | false => rw [no]; rfl
end Go.Proofs.TM
