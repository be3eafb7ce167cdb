/- The library's contracts, laid at this program's numbers; the rules of them. -/
import Derived.Shelf.Strings.Repeat
import Derived.Test.YtcmhbjnmjfhgaaaDoorTTxt
import Derived.Test.YtcmhbjnmjfhgaaaDoorTSpl
import Derived.Test.YtcmhbjnmjfhgaaaDoorProg
namespace Go.Proofs
open Go.Shelf
def Tryd.lays156_ren : Go.Shelf.Ren := ⟨fun | 156 => 65 | 165 => 103 | 166 => 82 | 169 => 83 | 240 => 108 | 241 => 116 | 276 => 117 | 277 => 124 | n => n, fun | 31 => 34 | 9 => 9 | 3 => 3 | 4 => 4 | 0 => 0 | 20 => 20 | 72 => 98 | 76 => 101 | 70 => 96 | 37 => 22 | 75 => 100 | 127 => 117 | 164 => 125 | 5 => 5 | 80 => 83 | n => n, fun | n => n⟩
theorem Tryd.lays156 : Go.Proofs.Lays.n156 Tryd.prog Tryd.lays156_ren := {
  mixed := by kernel_rfl
  f156 := Tryd.func65.trans (congrArg some (by kernel_rfl))
  f165 := Tryd.func103.trans (congrArg some (by kernel_rfl))
  f166 := Tryd.func82.trans (congrArg some (by kernel_rfl))
  f169 := Tryd.func83.trans (congrArg some (by kernel_rfl))
  f240 := Tryd.func108.trans (congrArg some (by kernel_rfl))
  f241 := Tryd.func116.trans (congrArg some (by kernel_rfl))
  f276 := Tryd.func117.trans (congrArg some (by kernel_rfl))
  f277 := Tryd.func124.trans (congrArg some (by kernel_rfl))
  t0 := Tryd.underlying0
  a0 := Tryd.isAgg0
  z0 := Tryd.sizeOf0
  v0 := Tryd.zeroValue0
  t3 := Tryd.underlying3
  a3 := Tryd.isAgg3
  z3 := Tryd.sizeOf3
  v3 := Tryd.zeroValue3
  t4 := Tryd.underlying4
  a4 := Tryd.isAgg4
  z4 := Tryd.sizeOf4
  v4 := Tryd.zeroValue4
  t9 := Tryd.underlying9
  a9 := Tryd.isAgg9
  z9 := Tryd.sizeOf9
  v9 := Tryd.zeroValue9
  t20 := Tryd.underlying20
  a20 := Tryd.isAgg20
  z20 := Tryd.sizeOf20
  v20 := Tryd.zeroValue20
  t31 := Tryd.underlying34
  a31 := Tryd.isAgg34
  z31 := Tryd.sizeOf34
  v31 := Tryd.zeroValue34
  t37 := Tryd.underlying22
  a37 := Tryd.isAgg22
  z37 := Tryd.sizeOf22
  v37 := Tryd.zeroValue22
  t70 := Tryd.underlying96
  a70 := Tryd.isAgg96
  z70 := Tryd.sizeOf96
  v70 := Tryd.zeroValue96
  t72 := Tryd.underlying98
  a72 := Tryd.isAgg98
  z72 := Tryd.sizeOf98
  v72 := Tryd.zeroValue98
  t75 := Tryd.underlying100
  a75 := Tryd.isAgg100
  z75 := Tryd.sizeOf100
  v75 := Tryd.zeroValue100
  t76 := Tryd.underlying101
  a76 := Tryd.isAgg101
  z76 := Tryd.sizeOf101
  v76 := Tryd.zeroValue101
  t127 := Tryd.underlying117
  a127 := Tryd.isAgg117
  z127 := Tryd.sizeOf117
  v127 := Tryd.zeroValue117
  t164 := Tryd.underlying125
  a164 := Tryd.isAgg125
  z164 := Tryd.sizeOf125
  v164 := Tryd.zeroValue125 }
theorem Tryd.Builder_Extra_156 : Builder.Extra Tryd.prog Tryd.lays156_ren := {
  sizeBuilder := by kernel_rfl
  liesBuilder := by kernel_rfl
  t5 := Tryd.underlying5
  a5 := Tryd.isAgg5
  z5 := Tryd.sizeOf5
  v5 := Tryd.zeroValue5
  infoByte := by kernel_rfl
  cellsByte := by kernel_rfl
  sizeByte := by kernel_rfl
  neB5 := by decide }
def Tryd.laysM173_ren : Go.Shelf.Ren := ⟨fun | 173 => 115 | 246 => 123 | 283 => 134 | 284 => 135 | 285 => 136 | 286 => 137 | 129 => 149 | 317 => 148 | 318 => 150 | 319 => 151 | 320 => 152 | 337 => 156 | 338 => 157 | n => n, fun | 2 => 2 | 3 => 3 | 9 => 9 | 4 => 4 | 171 => 142 | 0 => 0 | 53 => 76 | 37 => 22 | 5 => 5 | 173 => 145 | 212 => 154 | 51 => 155 | 20 => 20 | 213 => 156 | 46 => 115 | 232 => 169 | 233 => 170 | n => n, fun | 17 => 3 | 18 => 6 | 19 => 7 | n => n⟩
theorem Tryd.laysM173 : Go.Proofs.LaysM.n173 Tryd.prog Tryd.laysM173_ren := {
  mixed := by kernel_rfl
  f129 := Tryd.func149.trans (congrArg some (by kernel_rfl))
  f173 := Tryd.func115.trans (congrArg some (by kernel_rfl))
  f246 := Tryd.func123.trans (congrArg some (by kernel_rfl))
  f283 := Tryd.func134.trans (congrArg some (by kernel_rfl))
  f284 := Tryd.func135.trans (congrArg some (by kernel_rfl))
  f285 := Tryd.func136.trans (congrArg some (by kernel_rfl))
  f286 := Tryd.func137.trans (congrArg some (by kernel_rfl))
  f317 := Tryd.func148.trans (congrArg some (by kernel_rfl))
  f318 := Tryd.func150.trans (congrArg some (by kernel_rfl))
  f319 := Tryd.func151.trans (congrArg some (by kernel_rfl))
  f320 := Tryd.func152.trans (congrArg some (by kernel_rfl))
  f337 := Tryd.func156.trans (congrArg some (by kernel_rfl))
  f338 := Tryd.func157.trans (congrArg some (by kernel_rfl))
  t0 := Tryd.underlying0
  a0 := Tryd.isAgg0
  z0 := Tryd.sizeOf0
  v0 := Tryd.zeroValue0
  t2 := Tryd.underlying2
  a2 := Tryd.isAgg2
  z2 := Tryd.sizeOf2
  v2 := Tryd.zeroValue2
  t3 := Tryd.underlying3
  a3 := Tryd.isAgg3
  z3 := Tryd.sizeOf3
  v3 := Tryd.zeroValue3
  t4 := Tryd.underlying4
  a4 := Tryd.isAgg4
  z4 := Tryd.sizeOf4
  v4 := Tryd.zeroValue4
  t5 := Tryd.underlying5
  a5 := Tryd.isAgg5
  z5 := Tryd.sizeOf5
  v5 := Tryd.zeroValue5
  t9 := Tryd.underlying9
  a9 := Tryd.isAgg9
  z9 := Tryd.sizeOf9
  v9 := Tryd.zeroValue9
  t20 := Tryd.underlying20
  a20 := Tryd.isAgg20
  z20 := Tryd.sizeOf20
  v20 := Tryd.zeroValue20
  t37 := Tryd.underlying22
  a37 := Tryd.isAgg22
  z37 := Tryd.sizeOf22
  v37 := Tryd.zeroValue22
  t46 := Tryd.underlying115
  a46 := Tryd.isAgg115
  z46 := Tryd.sizeOf115
  v46 := Tryd.zeroValue115
  t51 := Tryd.underlying155
  a51 := Tryd.isAgg155
  z51 := Tryd.sizeOf155
  v51 := Tryd.zeroValue155
  t53 := Tryd.underlying76
  a53 := Tryd.isAgg76
  z53 := Tryd.sizeOf76
  v53 := Tryd.zeroValue76
  t171 := Tryd.underlying142
  a171 := Tryd.isAgg142
  z171 := Tryd.sizeOf142
  v171 := Tryd.zeroValue142
  t173 := Tryd.underlying145
  a173 := Tryd.isAgg145
  z173 := Tryd.sizeOf145
  v173 := Tryd.zeroValue145
  t212 := Tryd.underlying154
  a212 := Tryd.isAgg154
  z212 := Tryd.sizeOf154
  v212 := Tryd.zeroValue154
  t213 := Tryd.underlying156
  a213 := Tryd.isAgg156
  z213 := Tryd.sizeOf156
  t232 := Tryd.underlying169
  a232 := Tryd.isAgg169
  z232 := Tryd.sizeOf169
  v232 := Tryd.zeroValue169
  t233 := Tryd.underlying170
  a233 := Tryd.isAgg170
  z233 := Tryd.sizeOf170
  v233 := Tryd.zeroValue170
  g17 := by kernel_rfl
  g18 := by kernel_rfl
  g19 := by kernel_rfl
  i0 := by kernel_rfl
  i2 := by kernel_rfl
  i3 := by kernel_rfl
  i4 := by kernel_rfl
  i5 := by kernel_rfl
  i9 := by kernel_rfl
  i20 := by kernel_rfl
  i37 := by kernel_rfl
  i46 := by kernel_rfl
  i51 := by kernel_rfl
  i53 := by kernel_rfl
  i171 := by kernel_rfl
  i173 := by kernel_rfl
  i212 := by kernel_rfl
  i232 := by kernel_rfl
  i233 := by kernel_rfl
  m17 := by kernel_rfl
  m18 := by kernel_rfl
  m19 := by kernel_rfl }
def Tryd.laysC174_ren : Go.Shelf.Ren := ⟨fun | 174 => 113 | 247 => 121 | 245 => 122 | 287 => 129 | 279 => 130 | 280 => 131 | 281 => 132 | 282 => 133 | 321 => 143 | 322 => 144 | 316 => 145 | 171 => 147 | 205 => 146 | 243 => 155 | 246 => 123 | 283 => 134 | 284 => 135 | 285 => 136 | 286 => 137 | 129 => 149 | 317 => 148 | 318 => 150 | 319 => 151 | 320 => 152 | 337 => 156 | 338 => 157 | n => n, fun | 9 => 9 | 3 => 3 | 2 => 2 | 75 => 100 | 85 => 121 | 4 => 4 | 167 => 135 | 5 => 5 | 53 => 76 | 175 => 136 | 46 => 115 | 168 => 138 | 37 => 22 | 0 => 0 | 210 => 151 | 21 => 21 | 127 => 117 | 145 => 167 | 143 => 165 | 171 => 142 | 173 => 145 | 212 => 154 | 51 => 155 | 20 => 20 | 213 => 156 | 232 => 169 | 233 => 170 | 80 => 83 | n => n, fun | 15 => 1 | 16 => 2 | 17 => 3 | 18 => 6 | 19 => 7 | n => n⟩
theorem Tryd.laysC174 : Go.Proofs.LaysC.n174 Tryd.prog Tryd.laysC174_ren := {
  mixed := by kernel_rfl
  f129 := Tryd.func149.trans (congrArg some (by kernel_rfl))
  f171 := Tryd.func147.trans (congrArg some (by kernel_rfl))
  f174 := Tryd.func113.trans (congrArg some (by kernel_rfl))
  f205 := Tryd.func146.trans (congrArg some (by kernel_rfl))
  f243 := Tryd.func155.trans (congrArg some (by kernel_rfl))
  f245 := Tryd.func122.trans (congrArg some (by kernel_rfl))
  f246 := Tryd.func123.trans (congrArg some (by kernel_rfl))
  f247 := Tryd.func121.trans (congrArg some (by kernel_rfl))
  f279 := Tryd.func130.trans (congrArg some (by kernel_rfl))
  f280 := Tryd.func131.trans (congrArg some (by kernel_rfl))
  f281 := Tryd.func132.trans (congrArg some (by kernel_rfl))
  f282 := Tryd.func133.trans (congrArg some (by kernel_rfl))
  f283 := Tryd.func134.trans (congrArg some (by kernel_rfl))
  f284 := Tryd.func135.trans (congrArg some (by kernel_rfl))
  f285 := Tryd.func136.trans (congrArg some (by kernel_rfl))
  f286 := Tryd.func137.trans (congrArg some (by kernel_rfl))
  f287 := Tryd.func129.trans (congrArg some (by kernel_rfl))
  f316 := Tryd.func145.trans (congrArg some (by kernel_rfl))
  f317 := Tryd.func148.trans (congrArg some (by kernel_rfl))
  f318 := Tryd.func150.trans (congrArg some (by kernel_rfl))
  f319 := Tryd.func151.trans (congrArg some (by kernel_rfl))
  f320 := Tryd.func152.trans (congrArg some (by kernel_rfl))
  f321 := Tryd.func143.trans (congrArg some (by kernel_rfl))
  f322 := Tryd.func144.trans (congrArg some (by kernel_rfl))
  f337 := Tryd.func156.trans (congrArg some (by kernel_rfl))
  f338 := Tryd.func157.trans (congrArg some (by kernel_rfl))
  t0 := Tryd.underlying0
  a0 := Tryd.isAgg0
  z0 := Tryd.sizeOf0
  v0 := Tryd.zeroValue0
  t2 := Tryd.underlying2
  a2 := Tryd.isAgg2
  z2 := Tryd.sizeOf2
  v2 := Tryd.zeroValue2
  t3 := Tryd.underlying3
  a3 := Tryd.isAgg3
  z3 := Tryd.sizeOf3
  v3 := Tryd.zeroValue3
  t4 := Tryd.underlying4
  a4 := Tryd.isAgg4
  z4 := Tryd.sizeOf4
  v4 := Tryd.zeroValue4
  t5 := Tryd.underlying5
  a5 := Tryd.isAgg5
  z5 := Tryd.sizeOf5
  v5 := Tryd.zeroValue5
  t9 := Tryd.underlying9
  a9 := Tryd.isAgg9
  z9 := Tryd.sizeOf9
  v9 := Tryd.zeroValue9
  t20 := Tryd.underlying20
  a20 := Tryd.isAgg20
  z20 := Tryd.sizeOf20
  v20 := Tryd.zeroValue20
  t21 := Tryd.underlying21
  a21 := Tryd.isAgg21
  z21 := Tryd.sizeOf21
  v21 := Tryd.zeroValue21
  t37 := Tryd.underlying22
  a37 := Tryd.isAgg22
  z37 := Tryd.sizeOf22
  v37 := Tryd.zeroValue22
  t46 := Tryd.underlying115
  a46 := Tryd.isAgg115
  z46 := Tryd.sizeOf115
  v46 := Tryd.zeroValue115
  t51 := Tryd.underlying155
  a51 := Tryd.isAgg155
  z51 := Tryd.sizeOf155
  v51 := Tryd.zeroValue155
  t53 := Tryd.underlying76
  a53 := Tryd.isAgg76
  z53 := Tryd.sizeOf76
  v53 := Tryd.zeroValue76
  t75 := Tryd.underlying100
  a75 := Tryd.isAgg100
  z75 := Tryd.sizeOf100
  v75 := Tryd.zeroValue100
  t85 := Tryd.underlying121
  a85 := Tryd.isAgg121
  z85 := Tryd.sizeOf121
  v85 := Tryd.zeroValue121
  t127 := Tryd.underlying117
  a127 := Tryd.isAgg117
  z127 := Tryd.sizeOf117
  v127 := Tryd.zeroValue117
  t143 := Tryd.underlying165
  a143 := Tryd.isAgg165
  z143 := Tryd.sizeOf165
  v143 := Tryd.zeroValue165
  t145 := Tryd.underlying167
  a145 := Tryd.isAgg167
  z145 := Tryd.sizeOf167
  v145 := Tryd.zeroValue167
  t167 := Tryd.underlying135
  a167 := Tryd.isAgg135
  z167 := Tryd.sizeOf135
  v167 := Tryd.zeroValue135
  t168 := Tryd.underlying138
  a168 := Tryd.isAgg138
  z168 := Tryd.sizeOf138
  v168 := Tryd.zeroValue138
  t171 := Tryd.underlying142
  a171 := Tryd.isAgg142
  z171 := Tryd.sizeOf142
  v171 := Tryd.zeroValue142
  t173 := Tryd.underlying145
  a173 := Tryd.isAgg145
  z173 := Tryd.sizeOf145
  v173 := Tryd.zeroValue145
  t175 := Tryd.underlying136
  a175 := Tryd.isAgg136
  z175 := Tryd.sizeOf136
  v175 := Tryd.zeroValue136
  t210 := Tryd.underlying151
  a210 := Tryd.isAgg151
  z210 := Tryd.sizeOf151
  v210 := Tryd.zeroValue151
  t212 := Tryd.underlying154
  a212 := Tryd.isAgg154
  z212 := Tryd.sizeOf154
  v212 := Tryd.zeroValue154
  t213 := Tryd.underlying156
  a213 := Tryd.isAgg156
  z213 := Tryd.sizeOf156
  t232 := Tryd.underlying169
  a232 := Tryd.isAgg169
  z232 := Tryd.sizeOf169
  v232 := Tryd.zeroValue169
  t233 := Tryd.underlying170
  a233 := Tryd.isAgg170
  z233 := Tryd.sizeOf170
  v233 := Tryd.zeroValue170
  g15 := by kernel_rfl
  g16 := by kernel_rfl
  g17 := by kernel_rfl
  g18 := by kernel_rfl
  g19 := by kernel_rfl
  t80 := Tryd.underlying83
  a80 := Tryd.isAgg83
  z80 := Tryd.sizeOf83
  v80 := Tryd.zeroValue83
  i0 := by kernel_rfl
  i2 := by kernel_rfl
  i3 := by kernel_rfl
  i4 := by kernel_rfl
  i5 := by kernel_rfl
  i9 := by kernel_rfl
  i20 := by kernel_rfl
  i21 := by kernel_rfl
  i37 := by kernel_rfl
  i46 := by kernel_rfl
  i51 := by kernel_rfl
  i53 := by kernel_rfl
  i75 := by kernel_rfl
  i80 := by kernel_rfl
  i85 := by kernel_rfl
  i127 := by kernel_rfl
  i143 := by kernel_rfl
  i145 := by kernel_rfl
  i167 := by kernel_rfl
  i168 := by kernel_rfl
  i171 := by kernel_rfl
  i173 := by kernel_rfl
  i175 := by kernel_rfl
  i210 := by kernel_rfl
  i212 := by kernel_rfl
  i232 := by kernel_rfl
  i233 := by kernel_rfl
  m15 := by kernel_rfl
  m16 := by kernel_rfl
  m17 := by kernel_rfl
  m18 := by kernel_rfl
  m19 := by kernel_rfl
  c0 := by kernel_rfl
  c2 := by kernel_rfl
  c3 := by kernel_rfl
  c4 := by kernel_rfl
  c5 := by kernel_rfl
  c9 := by kernel_rfl
  c20 := by kernel_rfl
  c21 := by kernel_rfl
  c37 := by kernel_rfl
  c46 := by kernel_rfl
  c51 := by kernel_rfl
  c53 := by kernel_rfl
  c75 := by kernel_rfl
  c80 := by kernel_rfl
  c85 := by kernel_rfl
  c127 := by kernel_rfl
  c143 := by kernel_rfl
  c145 := by kernel_rfl
  c167 := by kernel_rfl
  c168 := by kernel_rfl
  c171 := by kernel_rfl
  c173 := by kernel_rfl
  c175 := by kernel_rfl
  c210 := by kernel_rfl
  c212 := by kernel_rfl
  c213 := by kernel_rfl
  c232 := by kernel_rfl
  c233 := by kernel_rfl }
def Tryd.lays146_ren : Go.Shelf.Ren := ⟨fun | 146 => 93 | 221 => 112 | 268 => 118 | 138 => 119 | 143 => 120 | 195 => 125 | 197 => 126 | 218 => 127 | 219 => 128 | 260 => 138 | 217 => 139 | 225 => 140 | 224 => 141 | 267 => 142 | 266 => 153 | 314 => 154 | n => n, fun | 9 => 9 | 31 => 34 | 3 => 3 | 4 => 4 | 0 => 0 | 105 => 132 | 21 => 21 | 5 => 5 | 46 => 115 | 119 => 159 | 139 => 162 | 138 => 161 | 146 => 163 | 51 => 155 | n => n, fun | 1 => 0 | 3 => 4 | 4 => 5 | n => n⟩
theorem Tryd.lays146 : Go.Proofs.Lays.n146 Tryd.prog Tryd.lays146_ren := {
  mixed := by kernel_rfl
  f138 := Tryd.func119.trans (congrArg some (by kernel_rfl))
  f143 := Tryd.func120.trans (congrArg some (by kernel_rfl))
  f146 := Tryd.func93.trans (congrArg some (by kernel_rfl))
  f195 := Tryd.func125.trans (congrArg some (by kernel_rfl))
  f197 := Tryd.func126.trans (congrArg some (by kernel_rfl))
  f217 := Tryd.func139.trans (congrArg some (by kernel_rfl))
  f218 := Tryd.func127.trans (congrArg some (by kernel_rfl))
  f219 := Tryd.func128.trans (congrArg some (by kernel_rfl))
  f221 := Tryd.func112.trans (congrArg some (by kernel_rfl))
  f224 := Tryd.func141.trans (congrArg some (by kernel_rfl))
  f225 := Tryd.func140.trans (congrArg some (by kernel_rfl))
  f260 := Tryd.func138.trans (congrArg some (by kernel_rfl))
  f266 := Tryd.func153.trans (congrArg some (by kernel_rfl))
  f267 := Tryd.func142.trans (congrArg some (by kernel_rfl))
  f268 := Tryd.func118.trans (congrArg some (by kernel_rfl))
  f314 := Tryd.func154.trans (congrArg some (by kernel_rfl))
  t0 := Tryd.underlying0
  a0 := Tryd.isAgg0
  z0 := Tryd.sizeOf0
  v0 := Tryd.zeroValue0
  t3 := Tryd.underlying3
  a3 := Tryd.isAgg3
  z3 := Tryd.sizeOf3
  v3 := Tryd.zeroValue3
  t4 := Tryd.underlying4
  a4 := Tryd.isAgg4
  z4 := Tryd.sizeOf4
  v4 := Tryd.zeroValue4
  t5 := Tryd.underlying5
  a5 := Tryd.isAgg5
  z5 := Tryd.sizeOf5
  v5 := Tryd.zeroValue5
  t9 := Tryd.underlying9
  a9 := Tryd.isAgg9
  z9 := Tryd.sizeOf9
  v9 := Tryd.zeroValue9
  t21 := Tryd.underlying21
  a21 := Tryd.isAgg21
  z21 := Tryd.sizeOf21
  v21 := Tryd.zeroValue21
  t31 := Tryd.underlying34
  a31 := Tryd.isAgg34
  z31 := Tryd.sizeOf34
  v31 := Tryd.zeroValue34
  t46 := Tryd.underlying115
  a46 := Tryd.isAgg115
  z46 := Tryd.sizeOf115
  v46 := Tryd.zeroValue115
  t51 := Tryd.underlying155
  a51 := Tryd.isAgg155
  z51 := Tryd.sizeOf155
  v51 := Tryd.zeroValue155
  t105 := Tryd.underlying132
  a105 := Tryd.isAgg132
  z105 := Tryd.sizeOf132
  v105 := Tryd.zeroValue132
  t119 := Tryd.underlying159
  a119 := Tryd.isAgg159
  z119 := Tryd.sizeOf159
  t138 := Tryd.underlying161
  a138 := Tryd.isAgg161
  z138 := Tryd.sizeOf161
  v138 := Tryd.zeroValue161
  t139 := Tryd.underlying162
  a139 := Tryd.isAgg162
  z139 := Tryd.sizeOf162
  v139 := Tryd.zeroValue162
  t146 := Tryd.underlying163
  a146 := Tryd.isAgg163
  z146 := Tryd.sizeOf163
  v146 := Tryd.zeroValue163
  g1 := by kernel_rfl
  g3 := by kernel_rfl
  g4 := by kernel_rfl }
namespace TM
theorem strings_Join_ok : RuleOk Tryd.prog 65 join_r := joinS_ok Tryd.lays156 Tryd.Builder_Extra_156 rfl ⟨_, Tryd.func65, by kernel_rfl, by kernel_rfl⟩
theorem pow10_tab (w : World) (I : Nat → Nat → Prop) (h : Lt w I) : Lib.TabIs Tryd.prog w "internal/strconv.uint64pow10" .u64 Lib.pow10Tab := by
  obtain ⟨⟨cs, ty, fr, h1, h2⟩, _⟩ := h.g _ (List.Mem.head _)
  dsimp only at h1 h2
  subst h2
  unfold Lib.TabIs World.var?
  rw [show Tryd.prog.globalNamed "internal/strconv.uint64pow10" = some 3 from by kernel_rfl]
  simp only [Option.bind_some, h1]
theorem strconv_FormatInt_ok : RuleOk Tryd.prog 115 fmt_r := fmt_ok Tryd.laysM173 rfl ⟨_, Tryd.func115, by kernel_rfl, by kernel_rfl⟩ pow10_tab

set_option maxHeartbeats 1000000 in
set_option maxRecDepth 1000000 in
theorem dec_walk (n : Int) (h0 : -9223372036854775808 ≤ n) (h1 : n ≤ 9223372036854775807) (w : World) (ht : Lib.TabIs Tryd.prog w "internal/strconv.uint64pow10" .u64 Lib.pow10Tab) :
    Calls Tryd.prog 102 #[.int .i64 n] w fun e w' => e = .returned (.string ⟨(Lib.itoa n).toArray⟩) ∧ RowKit.Below w.heap.size w w' := by
  have cF : Calls Tryd.prog 115 #[.int .i64 n, .int .i64 10] w _ := Any.strconv_FormatInt_10 Tryd.laysM173 n h0 h1 w ht
  go_enter Tryd.func102, Tryd.ntmps102
  go_wp2_with (go_at_call 115; refine cF.mono ?_; rintro e w' ⟨rfl, k, os, rfl⟩)
  go_ret
  exact ⟨rfl, below_grow w k os⟩
theorem tab_below {w w' : World} {zs : List Int} (h : Lib.TabIs Tryd.prog w "internal/strconv.uint64pow10" .u64 zs) (hb : RowKit.Below w.heap.size w w') : Lib.TabIs Tryd.prog w' "internal/strconv.uint64pow10" .u64 zs := by
  unfold Lib.TabIs World.var? at h ⊢
  rw [show Tryd.prog.globalNamed "internal/strconv.uint64pow10" = some 3 from by kernel_rfl, Option.bind_some] at h ⊢
  have hlt : 3 < w.heap.size := by
    rcases Nat.lt_or_ge 3 w.heap.size with h' | h'
    · exact h'
    · simp [Array.getElem?_eq_none h'] at h
  rw [hb.block _ hlt]; exact h
set_option maxHeartbeats 1000000 in
set_option maxRecDepth 1000000 in
theorem rdec_walk (s : ByteArray) (n : Int) (b : Bool) (w : World) (I : Nat → Nat → Prop) (hI : Lt w I) (h : rdecS s.data.toList = some (n, b)) :
    Calls Tryd.prog 99 #[.string s] w fun e w' => e = .returned (.tuple #[.int .i64 n, .bool b]) ∧ RowKit.Below w.heap.size w w' := by
  unfold rdecS at h
  split at h
  · rename_i hs
    have hsz : s.size ≤ 140737488355328 := hs
    have ht := pow10_tab w I hI
    have gm1 : (1, ErrC) ∈ gblocks := List.Mem.tail _ (List.Mem.head _)
    have gm2 : (2, ErrC) ∈ gblocks := List.Mem.tail _ (List.Mem.tail _ (List.Mem.head _))
    obtain ⟨t1, x1, c1⟩ := err_cell hI gm1
    obtain ⟨t2, x2, c2⟩ := err_cell hI gm2
    cases hp : Lib.parseIntB 64 s.data.toList with
    | ok v =>
      rw [hp] at h
      simp only [Option.some.injEq, Prod.mk.injEq] at h
      obtain ⟨rfl, rfl⟩ := h
      have hv := Lib.parseIntB_bounds hp
      have cP : Calls Tryd.prog 113 #[.string s, .int .i64 10, .int .i64 64] w _ := Any.strconv_ParseInt_10_at64_ok Tryd.laysC174 s (by omega) v hp w
      go_enter Tryd.func99, Tryd.ntmps99
      go_wp2_with (go_at_call 113; refine cP.mono ?_; rintro e W1 ⟨rfl, hW⟩)
      have hb1 : RowKit.Below w.heap.size w W1 := by
        rcases hW with rfl | ⟨t, rfl⟩
        · exact RowKit.Below.refl _ _
        · exact Lib.bytesWorld_below _ _ _
      clear hW
      have cD := dec_walk v (by have := hv.1; simp at this; omega) (by have := hv.2; simp at this; omega) W1 (tab_below ht hb1)
      go_wp2_with (go_at_call 102; refine cD.mono ?_; rintro e W2 ⟨rfl, hb2⟩)
      go_ret2
      refine ⟨?_, hb1.trans (hb2.mono hb1.size)⟩
      rw [ByteArray.toList_eq]
      by_cases hq : Lib.itoa v = s.data.toList <;> simp [hq]
    | «syntax» =>
      rw [hp] at h
      simp only [Option.some.injEq, Prod.mk.injEq] at h
      obtain ⟨rfl, rfl⟩ := h
      have cP : Calls Tryd.prog 113 #[.string s, .int .i64 10, .int .i64 64] w _ := Any.strconv_ParseInt_10_at64_syntax Tryd.laysC174 s (by omega) hp _ w c1 (.inr ⟨_, _, rfl⟩)
      go_enter Tryd.func99, Tryd.ntmps99
      go_wp2_with (go_at_call 113; refine cP.mono ?_; rintro e W1 ⟨N, rfl, hN, hW, hb⟩)
      go_ret2
      exact ⟨rfl, hb⟩
    | range =>
      rw [hp] at h
      simp only [Option.some.injEq, Prod.mk.injEq] at h
      obtain ⟨rfl, rfl⟩ := h
      have cP : Calls Tryd.prog 113 #[.string s, .int .i64 10, .int .i64 64] w _ := Any.strconv_ParseInt_10_at64_range Tryd.laysC174 s (by omega) hp _ w c2 (.inr ⟨_, _, rfl⟩)
      generalize Lib.intSat 64 s.data.toList = sat at cP ⊢
      go_enter Tryd.func99, Tryd.ntmps99
      go_wp2_with (go_at_call 113; refine cP.mono ?_; rintro e W1 ⟨N, rfl, hN, hW, hb⟩)
      go_ret2
      exact ⟨rfl, hb⟩
  · cases h
theorem impl_readDecimal_ok : RuleOk Tryd.prog 99 rdec_r := rdec_of ⟨_, Tryd.func99, by kernel_rfl, by kernel_rfl⟩ rdec_walk
theorem strings_Split_ok : RuleOk Tryd.prog 93 split_r := split_ok Tryd.lays146 (by kernel_rfl) rfl ⟨_, Tryd.func93, by kernel_rfl, by kernel_rfl⟩ fun w I h => int_cell h (List.Mem.tail _ (List.Mem.tail _ (List.Mem.tail _ (List.Mem.head _))))
end TM
end Go.Proofs
