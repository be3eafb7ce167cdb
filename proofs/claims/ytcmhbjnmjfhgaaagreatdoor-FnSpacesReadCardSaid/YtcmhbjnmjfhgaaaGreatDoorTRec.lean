import Derived.Test.YtcmhbjnmjfhgaaaGreatDoorTLib
namespace Go.Proofs.TM
open Go
noncomputable def evO {β:Type} (u:Nat→Option β):Option β:=open Classical in if h:∃ v,∃ N,∀ n,N≤n→u n=some v then some h.choose else none
theorem evO_inv {β:Type} {u:Nat→Option β} {v:β} (h:evO u=some v):∃ N,∀ n,N≤n→u n=some v:=by
 unfold evO at h
 split at h
 ·rename_i hx;cases h;exact hx.choose_spec
 ·cases h
theorem evO_mk {β:Type} {u:Nat→Option β} {v:β} (N:Nat) (h:∀ n,N≤n→u n=some v):evO u=some v:=by
 have hx:∃ v,∃ N,∀ n,N≤n→u n=some v:=⟨v,N,h⟩
 unfold evO
 rw [dif_pos hx]
 obtain ⟨M,hM⟩:=hx.choose_spec
 have h1:=hM (N+M) (by omega)
 rw [h (N+M) (by omega)] at h1
 exact h1.symm
section
variable {P:Program} {α β:Type} {enc:α→List TV} {encB:α→List Blk} {out:β→TV×List Blk} {f p:Nat} {tf:TFn}
theorem ok_none (hfn:FnOk P f tf):RuleOk P f (RlO enc (fun _=>none) out):=by
 refine ⟨hfn.1,fun ts r N hF=>?_⟩
 unfold RlO at hF
 split at hF <;> cases hF
theorem ok_ev {u:Nat→α→Option β} (h:∀ n,RuleOk P f (RlO enc (u n) out)):RuleOk P f (RlO enc (fun a=>evO fun n=>u n a) out):=by
 refine ⟨(h 0).1,fun ts r N hF=>?_⟩
 unfold RlO at hF
 split at hF
 ·rename_i hx
  simp only [Option.map_eq_some_iff] at hF
  obtain ⟨b,hb,he⟩:=hF
  obtain ⟨n,hn⟩:=evO_inv hb
  refine (h n).2 ts r N ?_
  unfold RlO
  rw [dif_pos hx,hn n (Nat.le_refl _)]
  simp [he]
 ·cases hF
theorem okM_none (hfn:FnOk P f tf):MRuleOk P f p (RmO enc encB (fun _=>none) out):=by
 refine ⟨hfn.1,fun ts B r N hF=>?_⟩
 unfold RmO at hF
 split at hF <;> cases hF
theorem okM_ev {u:Nat→α→Option β} (h:∀ n,MRuleOk P f p (RmO enc encB (u n) out)):MRuleOk P f p (RmO enc encB (fun a=>evO fun n=>u n a) out):=by
 refine ⟨(h 0).1,fun ts B r N hF=>?_⟩
 unfold RmO at hF
 split at hF
 ·rename_i hx
  simp only [Option.map_eq_some_iff] at hF
  obtain ⟨b,hb,he⟩:=hF
  obtain ⟨n,hn⟩:=evO_inv hb
  refine (h n).2 ts B r N ?_
  unfold RmO
  rw [dif_pos hx,hn n (Nat.le_refl _)]
  simp [he]
 ·cases hF
end
end Go.Proofs.TM
