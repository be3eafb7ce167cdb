import Derived.Test.YtfbolaoobodmoaaGreatTCopy
import Derived.Test.YtfbolaoobodmoaaGreatProg
import Derived.Lib.Builder
import Derived.WalkKit
namespace Go.Proofs.TM
open Go Go.Proofs Go.RowKit
set_option maxHeartbeats 1000000 in
set_option maxRecDepth 100000 in
theorem ck_used:CkUsed Tryz.prog 91:=fun b w h0=>by
 have hj:∃ j,Tryz.prog.info? 102=some j:=Option.isSome_iff_exists.1 (by kernel_rfl)
 obtain ⟨j,hj⟩:=hj
 have hu:Tryz.prog.underlying 100=some (.pointer 102):=by kernel_rfl
 go_enter Tryz.func91,Tryz.ntmps91
 go_wp2
 rw [Lib.run_neq_ptr_same w _ hu hj]
 go_wp2
 go_end0
 exact ⟨rfl,rfl⟩
set_option maxHeartbeats 1000000 in
set_option maxRecDepth 100000 in
theorem ck_fresh:CkFresh Tryz.prog 91 102:=fun b w h0 hsh hfz=>by
 have hs:(Tryz.prog.info? 102).map (·.size)=some 2:=by kernel_rfl
 obtain ⟨j,hj,hjs⟩:=Option.map_eq_some_iff.1 hs
 have hl:liesAt Tryz.prog Tryz.prog.depth 102 (2 / Tryz.prog.cellsOf 102) 0 102 1=true:=by kernel_rfl
 have hu:Tryz.prog.underlying 100=some (.pointer 102):=by kernel_rfl
 have huu:Tryz.prog.underlying 150=some .unsafePointer:=by kernel_rfl
 go_enter Tryz.func91,Tryz.ntmps91
 go_wp2
 rw [Lib.run_to_unsafe w ⟨b,0,none⟩ hu huu hj (by rw [hjs];decide) hsh (Nat.zero_lt_succ 1)]
 simp only [Result.andThen]
 rw [Oper.upon_value]
 go_wp2
 rw [run_callFunc_extern Tryz.func123 (by kernel_rfl) (by kernel_rfl) (by kernel_rfl) (e:=Extern.AbiNoEscape.same) (by kernel_rfl)]
 rw [Lib.run_noEscape]
 simp only [Result.andThen]
 rw [Oper.upon_value]
 go_wp2
 rw [Lib.run_from_unsafe w ⟨b,0,none⟩ huu hu hj hsh hl]
 simp only [Result.andThen]
 rw [Oper.upon_value]
 go_wp2
 go_end0
 exact ⟨rfl,rfl⟩
theorem copyCheck_ok:MRuleOk Tryz.prog 91 2 (copy_r 102 5):=copyChk_ok ck_fresh ck_used ⟨_,Tryz.func91,by kernel_rfl,by kernel_rfl⟩
@[simp] theorem sA_allocS (S:Sys) (e:Env) (H:Heap) (b:Nat):opA S e H b (.allocB 102)=some (.ptr b 0 0,[.live 2 [[.bself b 102,owb (b+1) nilB.length 5]],ob 1 nilB]):=rfl
@[simp] theorem sR_allocS (rec:TC→Env→Heap→Option Out) (S:Sys) (e:Env) (H:Heap):runOp rec S e H (.allocB 102)=some (.ptr H.length 0 0,H++[.live 2 [[.bself H.length 102,owb (H.length+1) nilB.length 5]],ob 1 nilB]):=rfl
end Go.Proofs.TM
