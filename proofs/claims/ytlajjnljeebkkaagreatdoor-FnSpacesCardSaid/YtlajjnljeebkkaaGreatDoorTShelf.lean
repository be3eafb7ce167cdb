/- The library's contracts, laid at this program's numbers; the rules of them. -/
import Derived.Shelf.Strings.Repeat
import Derived.Test.YtlajjnljeebkkaaGreatDoorTTxt
import Derived.Test.YtlajjnljeebkkaaGreatDoorProg
namespace Go.Proofs
open Go.Shelf
def Tryz.lays156_ren : Go.Shelf.Ren := ⟨fun | 156 => 38 | 165 => 50 | 166 => 51 | 169 => 52 | 240 => 64 | 241 => 65 | 276 => 76 | 277 => 77 | n => n, fun | 31 => 58 | 9 => 9 | 3 => 3 | 4 => 4 | 0 => 0 | 20 => 20 | 72 => 71 | 76 => 75 | 70 => 69 | 37 => 22 | 75 => 74 | 127 => 88 | 164 => 99 | 5 => 5 | 80 => 41 | n => n, fun | n => n⟩
theorem Tryz.lays156 : Go.Proofs.Lays.n156 Tryz.prog Tryz.lays156_ren := {
  mixed := by kernel_rfl
  f156 := Tryz.func38.trans (congrArg some (by kernel_rfl))
  f165 := Tryz.func50.trans (congrArg some (by kernel_rfl))
  f166 := Tryz.func51.trans (congrArg some (by kernel_rfl))
  f169 := Tryz.func52.trans (congrArg some (by kernel_rfl))
  f240 := Tryz.func64.trans (congrArg some (by kernel_rfl))
  f241 := Tryz.func65.trans (congrArg some (by kernel_rfl))
  f276 := Tryz.func76.trans (congrArg some (by kernel_rfl))
  f277 := Tryz.func77.trans (congrArg some (by kernel_rfl))
  t0 := Tryz.underlying0
  a0 := Tryz.isAgg0
  z0 := Tryz.sizeOf0
  v0 := Tryz.zeroValue0
  t3 := Tryz.underlying3
  a3 := Tryz.isAgg3
  z3 := Tryz.sizeOf3
  v3 := Tryz.zeroValue3
  t4 := Tryz.underlying4
  a4 := Tryz.isAgg4
  z4 := Tryz.sizeOf4
  v4 := Tryz.zeroValue4
  t9 := Tryz.underlying9
  a9 := Tryz.isAgg9
  z9 := Tryz.sizeOf9
  v9 := Tryz.zeroValue9
  t20 := Tryz.underlying20
  a20 := Tryz.isAgg20
  z20 := Tryz.sizeOf20
  v20 := Tryz.zeroValue20
  t31 := Tryz.underlying58
  a31 := Tryz.isAgg58
  z31 := Tryz.sizeOf58
  v31 := Tryz.zeroValue58
  t37 := Tryz.underlying22
  a37 := Tryz.isAgg22
  z37 := Tryz.sizeOf22
  v37 := Tryz.zeroValue22
  t70 := Tryz.underlying69
  a70 := Tryz.isAgg69
  z70 := Tryz.sizeOf69
  v70 := Tryz.zeroValue69
  t72 := Tryz.underlying71
  a72 := Tryz.isAgg71
  z72 := Tryz.sizeOf71
  v72 := Tryz.zeroValue71
  t75 := Tryz.underlying74
  a75 := Tryz.isAgg74
  z75 := Tryz.sizeOf74
  v75 := Tryz.zeroValue74
  t76 := Tryz.underlying75
  a76 := Tryz.isAgg75
  z76 := Tryz.sizeOf75
  v76 := Tryz.zeroValue75
  t127 := Tryz.underlying88
  a127 := Tryz.isAgg88
  z127 := Tryz.sizeOf88
  v127 := Tryz.zeroValue88
  t164 := Tryz.underlying99
  a164 := Tryz.isAgg99
  z164 := Tryz.sizeOf99
  v164 := Tryz.zeroValue99 }
theorem Tryz.Builder_Extra_156 : Builder.Extra Tryz.prog Tryz.lays156_ren := {
  sizeBuilder := by kernel_rfl
  liesBuilder := by kernel_rfl
  t5 := Tryz.underlying5
  a5 := Tryz.isAgg5
  z5 := Tryz.sizeOf5
  v5 := Tryz.zeroValue5
  infoByte := by kernel_rfl
  cellsByte := by kernel_rfl
  sizeByte := by kernel_rfl
  neB5 := by decide }
def Tryz.laysM173_ren : Go.Shelf.Ren := ⟨fun | 173 => 49 | 246 => 63 | 283 => 72 | 284 => 73 | 285 => 74 | 286 => 75 | 129 => 83 | 317 => 82 | 318 => 84 | 319 => 85 | 320 => 86 | 337 => 92 | 338 => 93 | n => n, fun | 2 => 2 | 3 => 3 | 9 => 9 | 4 => 4 | 171 => 94 | 0 => 0 | 53 => 52 | 37 => 22 | 5 => 5 | 173 => 97 | 212 => 107 | 51 => 108 | 20 => 20 | 213 => 109 | 46 => 87 | 232 => 124 | 233 => 125 | n => n, fun | 17 => 0 | 18 => 4 | 19 => 5 | n => n⟩
theorem Tryz.laysM173 : Go.Proofs.LaysM.n173 Tryz.prog Tryz.laysM173_ren := {
  mixed := by kernel_rfl
  f129 := Tryz.func83.trans (congrArg some (by kernel_rfl))
  f173 := Tryz.func49.trans (congrArg some (by kernel_rfl))
  f246 := Tryz.func63.trans (congrArg some (by kernel_rfl))
  f283 := Tryz.func72.trans (congrArg some (by kernel_rfl))
  f284 := Tryz.func73.trans (congrArg some (by kernel_rfl))
  f285 := Tryz.func74.trans (congrArg some (by kernel_rfl))
  f286 := Tryz.func75.trans (congrArg some (by kernel_rfl))
  f317 := Tryz.func82.trans (congrArg some (by kernel_rfl))
  f318 := Tryz.func84.trans (congrArg some (by kernel_rfl))
  f319 := Tryz.func85.trans (congrArg some (by kernel_rfl))
  f320 := Tryz.func86.trans (congrArg some (by kernel_rfl))
  f337 := Tryz.func92.trans (congrArg some (by kernel_rfl))
  f338 := Tryz.func93.trans (congrArg some (by kernel_rfl))
  t0 := Tryz.underlying0
  a0 := Tryz.isAgg0
  z0 := Tryz.sizeOf0
  v0 := Tryz.zeroValue0
  t2 := Tryz.underlying2
  a2 := Tryz.isAgg2
  z2 := Tryz.sizeOf2
  v2 := Tryz.zeroValue2
  t3 := Tryz.underlying3
  a3 := Tryz.isAgg3
  z3 := Tryz.sizeOf3
  v3 := Tryz.zeroValue3
  t4 := Tryz.underlying4
  a4 := Tryz.isAgg4
  z4 := Tryz.sizeOf4
  v4 := Tryz.zeroValue4
  t5 := Tryz.underlying5
  a5 := Tryz.isAgg5
  z5 := Tryz.sizeOf5
  v5 := Tryz.zeroValue5
  t9 := Tryz.underlying9
  a9 := Tryz.isAgg9
  z9 := Tryz.sizeOf9
  v9 := Tryz.zeroValue9
  t20 := Tryz.underlying20
  a20 := Tryz.isAgg20
  z20 := Tryz.sizeOf20
  v20 := Tryz.zeroValue20
  t37 := Tryz.underlying22
  a37 := Tryz.isAgg22
  z37 := Tryz.sizeOf22
  v37 := Tryz.zeroValue22
  t46 := Tryz.underlying87
  a46 := Tryz.isAgg87
  z46 := Tryz.sizeOf87
  v46 := Tryz.zeroValue87
  t51 := Tryz.underlying108
  a51 := Tryz.isAgg108
  z51 := Tryz.sizeOf108
  v51 := Tryz.zeroValue108
  t53 := Tryz.underlying52
  a53 := Tryz.isAgg52
  z53 := Tryz.sizeOf52
  v53 := Tryz.zeroValue52
  t171 := Tryz.underlying94
  a171 := Tryz.isAgg94
  z171 := Tryz.sizeOf94
  v171 := Tryz.zeroValue94
  t173 := Tryz.underlying97
  a173 := Tryz.isAgg97
  z173 := Tryz.sizeOf97
  v173 := Tryz.zeroValue97
  t212 := Tryz.underlying107
  a212 := Tryz.isAgg107
  z212 := Tryz.sizeOf107
  v212 := Tryz.zeroValue107
  t213 := Tryz.underlying109
  a213 := Tryz.isAgg109
  z213 := Tryz.sizeOf109
  t232 := Tryz.underlying124
  a232 := Tryz.isAgg124
  z232 := Tryz.sizeOf124
  v232 := Tryz.zeroValue124
  t233 := Tryz.underlying125
  a233 := Tryz.isAgg125
  z233 := Tryz.sizeOf125
  v233 := Tryz.zeroValue125
  g17 := by kernel_rfl
  g18 := by kernel_rfl
  g19 := by kernel_rfl
  i0 := by kernel_rfl
  i2 := by kernel_rfl
  i3 := by kernel_rfl
  i4 := by kernel_rfl
  i5 := by kernel_rfl
  i9 := by kernel_rfl
  i20 := by kernel_rfl
  i37 := by kernel_rfl
  i46 := by kernel_rfl
  i51 := by kernel_rfl
  i53 := by kernel_rfl
  i171 := by kernel_rfl
  i173 := by kernel_rfl
  i212 := by kernel_rfl
  i232 := by kernel_rfl
  i233 := by kernel_rfl
  m17 := by kernel_rfl
  m18 := by kernel_rfl
  m19 := by kernel_rfl }
def Tryz.laysC174_ren : Go.Shelf.Ren := ⟨fun | 174 => 69 | 247 => 80 | 245 => 81 | 287 => 87 | 279 => 88 | 280 => 89 | 281 => 90 | 282 => 91 | 321 => 94 | 322 => 95 | 316 => 96 | 171 => 98 | 205 => 97 | 243 => 99 | 246 => 63 | 283 => 72 | 284 => 73 | 285 => 74 | 286 => 75 | 129 => 83 | 317 => 82 | 318 => 84 | 319 => 85 | 320 => 86 | 337 => 92 | 338 => 93 | n => n, fun | 9 => 9 | 3 => 3 | 2 => 2 | 75 => 74 | 85 => 90 | 4 => 4 | 167 => 112 | 5 => 5 | 53 => 52 | 175 => 113 | 46 => 87 | 168 => 115 | 37 => 22 | 0 => 0 | 210 => 122 | 21 => 21 | 127 => 88 | 145 => 128 | 143 => 126 | 171 => 94 | 173 => 97 | 212 => 107 | 51 => 108 | 20 => 20 | 213 => 109 | 232 => 124 | 233 => 125 | 80 => 41 | n => n, fun | 15 => 2 | 16 => 3 | 17 => 0 | 18 => 4 | 19 => 5 | n => n⟩
theorem Tryz.laysC174 : Go.Proofs.LaysC.n174 Tryz.prog Tryz.laysC174_ren := {
  mixed := by kernel_rfl
  f129 := Tryz.func83.trans (congrArg some (by kernel_rfl))
  f171 := Tryz.func98.trans (congrArg some (by kernel_rfl))
  f174 := Tryz.func69.trans (congrArg some (by kernel_rfl))
  f205 := Tryz.func97.trans (congrArg some (by kernel_rfl))
  f243 := Tryz.func99.trans (congrArg some (by kernel_rfl))
  f245 := Tryz.func81.trans (congrArg some (by kernel_rfl))
  f246 := Tryz.func63.trans (congrArg some (by kernel_rfl))
  f247 := Tryz.func80.trans (congrArg some (by kernel_rfl))
  f279 := Tryz.func88.trans (congrArg some (by kernel_rfl))
  f280 := Tryz.func89.trans (congrArg some (by kernel_rfl))
  f281 := Tryz.func90.trans (congrArg some (by kernel_rfl))
  f282 := Tryz.func91.trans (congrArg some (by kernel_rfl))
  f283 := Tryz.func72.trans (congrArg some (by kernel_rfl))
  f284 := Tryz.func73.trans (congrArg some (by kernel_rfl))
  f285 := Tryz.func74.trans (congrArg some (by kernel_rfl))
  f286 := Tryz.func75.trans (congrArg some (by kernel_rfl))
  f287 := Tryz.func87.trans (congrArg some (by kernel_rfl))
  f316 := Tryz.func96.trans (congrArg some (by kernel_rfl))
  f317 := Tryz.func82.trans (congrArg some (by kernel_rfl))
  f318 := Tryz.func84.trans (congrArg some (by kernel_rfl))
  f319 := Tryz.func85.trans (congrArg some (by kernel_rfl))
  f320 := Tryz.func86.trans (congrArg some (by kernel_rfl))
  f321 := Tryz.func94.trans (congrArg some (by kernel_rfl))
  f322 := Tryz.func95.trans (congrArg some (by kernel_rfl))
  f337 := Tryz.func92.trans (congrArg some (by kernel_rfl))
  f338 := Tryz.func93.trans (congrArg some (by kernel_rfl))
  t0 := Tryz.underlying0
  a0 := Tryz.isAgg0
  z0 := Tryz.sizeOf0
  v0 := Tryz.zeroValue0
  t2 := Tryz.underlying2
  a2 := Tryz.isAgg2
  z2 := Tryz.sizeOf2
  v2 := Tryz.zeroValue2
  t3 := Tryz.underlying3
  a3 := Tryz.isAgg3
  z3 := Tryz.sizeOf3
  v3 := Tryz.zeroValue3
  t4 := Tryz.underlying4
  a4 := Tryz.isAgg4
  z4 := Tryz.sizeOf4
  v4 := Tryz.zeroValue4
  t5 := Tryz.underlying5
  a5 := Tryz.isAgg5
  z5 := Tryz.sizeOf5
  v5 := Tryz.zeroValue5
  t9 := Tryz.underlying9
  a9 := Tryz.isAgg9
  z9 := Tryz.sizeOf9
  v9 := Tryz.zeroValue9
  t20 := Tryz.underlying20
  a20 := Tryz.isAgg20
  z20 := Tryz.sizeOf20
  v20 := Tryz.zeroValue20
  t21 := Tryz.underlying21
  a21 := Tryz.isAgg21
  z21 := Tryz.sizeOf21
  v21 := Tryz.zeroValue21
  t37 := Tryz.underlying22
  a37 := Tryz.isAgg22
  z37 := Tryz.sizeOf22
  v37 := Tryz.zeroValue22
  t46 := Tryz.underlying87
  a46 := Tryz.isAgg87
  z46 := Tryz.sizeOf87
  v46 := Tryz.zeroValue87
  t51 := Tryz.underlying108
  a51 := Tryz.isAgg108
  z51 := Tryz.sizeOf108
  v51 := Tryz.zeroValue108
  t53 := Tryz.underlying52
  a53 := Tryz.isAgg52
  z53 := Tryz.sizeOf52
  v53 := Tryz.zeroValue52
  t75 := Tryz.underlying74
  a75 := Tryz.isAgg74
  z75 := Tryz.sizeOf74
  v75 := Tryz.zeroValue74
  t85 := Tryz.underlying90
  a85 := Tryz.isAgg90
  z85 := Tryz.sizeOf90
  v85 := Tryz.zeroValue90
  t127 := Tryz.underlying88
  a127 := Tryz.isAgg88
  z127 := Tryz.sizeOf88
  v127 := Tryz.zeroValue88
  t143 := Tryz.underlying126
  a143 := Tryz.isAgg126
  z143 := Tryz.sizeOf126
  v143 := Tryz.zeroValue126
  t145 := Tryz.underlying128
  a145 := Tryz.isAgg128
  z145 := Tryz.sizeOf128
  v145 := Tryz.zeroValue128
  t167 := Tryz.underlying112
  a167 := Tryz.isAgg112
  z167 := Tryz.sizeOf112
  v167 := Tryz.zeroValue112
  t168 := Tryz.underlying115
  a168 := Tryz.isAgg115
  z168 := Tryz.sizeOf115
  v168 := Tryz.zeroValue115
  t171 := Tryz.underlying94
  a171 := Tryz.isAgg94
  z171 := Tryz.sizeOf94
  v171 := Tryz.zeroValue94
  t173 := Tryz.underlying97
  a173 := Tryz.isAgg97
  z173 := Tryz.sizeOf97
  v173 := Tryz.zeroValue97
  t175 := Tryz.underlying113
  a175 := Tryz.isAgg113
  z175 := Tryz.sizeOf113
  v175 := Tryz.zeroValue113
  t210 := Tryz.underlying122
  a210 := Tryz.isAgg122
  z210 := Tryz.sizeOf122
  v210 := Tryz.zeroValue122
  t212 := Tryz.underlying107
  a212 := Tryz.isAgg107
  z212 := Tryz.sizeOf107
  v212 := Tryz.zeroValue107
  t213 := Tryz.underlying109
  a213 := Tryz.isAgg109
  z213 := Tryz.sizeOf109
  t232 := Tryz.underlying124
  a232 := Tryz.isAgg124
  z232 := Tryz.sizeOf124
  v232 := Tryz.zeroValue124
  t233 := Tryz.underlying125
  a233 := Tryz.isAgg125
  z233 := Tryz.sizeOf125
  v233 := Tryz.zeroValue125
  g15 := by kernel_rfl
  g16 := by kernel_rfl
  g17 := by kernel_rfl
  g18 := by kernel_rfl
  g19 := by kernel_rfl
  t80 := Tryz.underlying41
  a80 := Tryz.isAgg41
  z80 := Tryz.sizeOf41
  v80 := Tryz.zeroValue41
  i0 := by kernel_rfl
  i2 := by kernel_rfl
  i3 := by kernel_rfl
  i4 := by kernel_rfl
  i5 := by kernel_rfl
  i9 := by kernel_rfl
  i20 := by kernel_rfl
  i21 := by kernel_rfl
  i37 := by kernel_rfl
  i46 := by kernel_rfl
  i51 := by kernel_rfl
  i53 := by kernel_rfl
  i75 := by kernel_rfl
  i80 := by kernel_rfl
  i85 := by kernel_rfl
  i127 := by kernel_rfl
  i143 := by kernel_rfl
  i145 := by kernel_rfl
  i167 := by kernel_rfl
  i168 := by kernel_rfl
  i171 := by kernel_rfl
  i173 := by kernel_rfl
  i175 := by kernel_rfl
  i210 := by kernel_rfl
  i212 := by kernel_rfl
  i232 := by kernel_rfl
  i233 := by kernel_rfl
  m15 := by kernel_rfl
  m16 := by kernel_rfl
  m17 := by kernel_rfl
  m18 := by kernel_rfl
  m19 := by kernel_rfl
  c0 := by kernel_rfl
  c2 := by kernel_rfl
  c3 := by kernel_rfl
  c4 := by kernel_rfl
  c5 := by kernel_rfl
  c9 := by kernel_rfl
  c20 := by kernel_rfl
  c21 := by kernel_rfl
  c37 := by kernel_rfl
  c46 := by kernel_rfl
  c51 := by kernel_rfl
  c53 := by kernel_rfl
  c75 := by kernel_rfl
  c80 := by kernel_rfl
  c85 := by kernel_rfl
  c127 := by kernel_rfl
  c143 := by kernel_rfl
  c145 := by kernel_rfl
  c167 := by kernel_rfl
  c168 := by kernel_rfl
  c171 := by kernel_rfl
  c173 := by kernel_rfl
  c175 := by kernel_rfl
  c210 := by kernel_rfl
  c212 := by kernel_rfl
  c213 := by kernel_rfl
  c232 := by kernel_rfl
  c233 := by kernel_rfl }
namespace TM
theorem strings_Join_ok : RuleOk Tryz.prog 38 join_r := joinS_ok Tryz.lays156 Tryz.Builder_Extra_156 rfl ⟨_, Tryz.func38, by kernel_rfl, by kernel_rfl⟩
theorem pow10_tab (w : World) (I : Nat → Nat → Prop) (h : Lt w I) : Lib.TabIs Tryz.prog w "internal/strconv.uint64pow10" .u64 Lib.pow10Tab := by
  obtain ⟨⟨cs, ty, fr, h1, h2⟩, _⟩ := h.g _ (List.Mem.head _)
  dsimp only at h1 h2
  subst h2
  unfold Lib.TabIs World.var?
  rw [show Tryz.prog.globalNamed "internal/strconv.uint64pow10" = some 0 from by kernel_rfl]
  simp only [Option.bind_some, h1]
theorem strconv_FormatInt_ok : RuleOk Tryz.prog 49 fmt_r := fmt_ok Tryz.laysM173 rfl ⟨_, Tryz.func49, by kernel_rfl, by kernel_rfl⟩ pow10_tab

set_option maxHeartbeats 1000000 in
set_option maxRecDepth 1000000 in
theorem dec_walk (n : Int) (h0 : -9223372036854775808 ≤ n) (h1 : n ≤ 9223372036854775807) (w : World) (ht : Lib.TabIs Tryz.prog w "internal/strconv.uint64pow10" .u64 Lib.pow10Tab) :
    Calls Tryz.prog 37 #[.int .i64 n] w fun e w' => e = .returned (.string ⟨(Lib.itoa n).toArray⟩) ∧ RowKit.Below w.heap.size w w' := by
  have cF : Calls Tryz.prog 49 #[.int .i64 n, .int .i64 10] w _ := Any.strconv_FormatInt_10 Tryz.laysM173 n h0 h1 w ht
  go_enter Tryz.func37, Tryz.ntmps37
  go_wp2_with (go_at_call 49; refine cF.mono ?_; rintro e w' ⟨rfl, k, os, rfl⟩)
  go_ret
  exact ⟨rfl, below_grow w k os⟩
theorem tab_below {w w' : World} {zs : List Int} (h : Lib.TabIs Tryz.prog w "internal/strconv.uint64pow10" .u64 zs) (hb : RowKit.Below w.heap.size w w') : Lib.TabIs Tryz.prog w' "internal/strconv.uint64pow10" .u64 zs := by
  unfold Lib.TabIs World.var? at h ⊢
  rw [show Tryz.prog.globalNamed "internal/strconv.uint64pow10" = some 0 from by kernel_rfl, Option.bind_some] at h ⊢
  have hlt : 0 < w.heap.size := by
    rcases Nat.lt_or_ge 0 w.heap.size with h' | h'
    · exact h'
    · simp [Array.getElem?_eq_none h'] at h
  rw [hb.block _ hlt]; exact h
set_option maxHeartbeats 1000000 in
set_option maxRecDepth 1000000 in
theorem rdec_walk (s : ByteArray) (n : Int) (b : Bool) (w : World) (I : Nat → Nat → Prop) (hI : Lt w I) (h : rdecS s.data.toList = some (n, b)) :
    Calls Tryz.prog 55 #[.string s] w fun e w' => e = .returned (.tuple #[.int .i64 n, .bool b]) ∧ RowKit.Below w.heap.size w w' := by
  unfold rdecS at h
  split at h
  · rename_i hs
    have hsz : s.size ≤ 140737488355328 := hs
    have ht := pow10_tab w I hI
    have gm1 : (2, ErrC) ∈ gblocks := List.Mem.tail _ (List.Mem.head _)
    have gm2 : (3, ErrC) ∈ gblocks := List.Mem.tail _ (List.Mem.tail _ (List.Mem.head _))
    obtain ⟨t1, x1, c1⟩ := err_cell hI gm1
    obtain ⟨t2, x2, c2⟩ := err_cell hI gm2
    cases hp : Lib.parseIntB 64 s.data.toList with
    | ok v =>
      rw [hp] at h
      simp only [Option.some.injEq, Prod.mk.injEq] at h
      obtain ⟨rfl, rfl⟩ := h
      have hv := Lib.parseIntB_bounds hp
      have cP : Calls Tryz.prog 69 #[.string s, .int .i64 10, .int .i64 64] w _ := Any.strconv_ParseInt_10_at64_ok Tryz.laysC174 s (by omega) v hp w
      go_enter Tryz.func55, Tryz.ntmps55
      go_wp2_with (go_at_call 69; refine cP.mono ?_; rintro e W1 ⟨rfl, hW⟩)
      have hb1 : RowKit.Below w.heap.size w W1 := by
        rcases hW with rfl | ⟨t, rfl⟩
        · exact RowKit.Below.refl _ _
        · exact Lib.bytesWorld_below _ _ _
      clear hW
      have cD := dec_walk v (by have := hv.1; simp at this; omega) (by have := hv.2; simp at this; omega) W1 (tab_below ht hb1)
      go_wp2_with (go_at_call 37; refine cD.mono ?_; rintro e W2 ⟨rfl, hb2⟩)
      go_ret2
      refine ⟨?_, hb1.trans (hb2.mono hb1.size)⟩
      rw [ByteArray.toList_eq]
      by_cases hq : Lib.itoa v = s.data.toList <;> simp [hq]
    | «syntax» =>
      rw [hp] at h
      simp only [Option.some.injEq, Prod.mk.injEq] at h
      obtain ⟨rfl, rfl⟩ := h
      have cP : Calls Tryz.prog 69 #[.string s, .int .i64 10, .int .i64 64] w _ := Any.strconv_ParseInt_10_at64_syntax Tryz.laysC174 s (by omega) hp _ w c1 (.inr ⟨_, _, rfl⟩)
      go_enter Tryz.func55, Tryz.ntmps55
      go_wp2_with (go_at_call 69; refine cP.mono ?_; rintro e W1 ⟨N, rfl, hN, hW, hb⟩)
      go_ret2
      exact ⟨rfl, hb⟩
    | range =>
      rw [hp] at h
      simp only [Option.some.injEq, Prod.mk.injEq] at h
      obtain ⟨rfl, rfl⟩ := h
      have cP : Calls Tryz.prog 69 #[.string s, .int .i64 10, .int .i64 64] w _ := Any.strconv_ParseInt_10_at64_range Tryz.laysC174 s (by omega) hp _ w c2 (.inr ⟨_, _, rfl⟩)
      generalize Lib.intSat 64 s.data.toList = sat at cP ⊢
      go_enter Tryz.func55, Tryz.ntmps55
      go_wp2_with (go_at_call 69; refine cP.mono ?_; rintro e W1 ⟨N, rfl, hN, hW, hb⟩)
      go_ret2
      exact ⟨rfl, hb⟩
  · cases h
theorem impl_readDecimal_ok : RuleOk Tryz.prog 55 rdec_r := rdec_of ⟨_, Tryz.func55, by kernel_rfl, by kernel_rfl⟩ rdec_walk
end TM
end Go.Proofs
