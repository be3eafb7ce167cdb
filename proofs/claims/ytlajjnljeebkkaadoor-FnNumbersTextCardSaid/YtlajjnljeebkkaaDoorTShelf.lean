/- The library's contracts, laid at this program's numbers; the rules of them. -/
import Derived.Shelf.Strings.Repeat
import Derived.Test.YtlajjnljeebkkaaDoorTTxt
import Derived.Test.YtlajjnljeebkkaaDoorTSpl
import Derived.Test.YtlajjnljeebkkaaDoorProg
namespace Go.Proofs
open Go.Shelf
def Tryd.lays156_ren : Go.Shelf.Ren := ⟨fun | 156 => 85 | 165 => 124 | 166 => 125 | 169 => 126 | 240 => 146 | 241 => 147 | 276 => 161 | 277 => 162 | n => n, fun | 31 => 70 | 9 => 9 | 3 => 3 | 4 => 4 | 0 => 0 | 20 => 20 | 72 => 144 | 76 => 146 | 70 => 142 | 37 => 52 | 75 => 126 | 127 => 158 | 164 => 171 | 5 => 5 | 80 => 67 | n => n, fun | n => n⟩
theorem Tryd.lays156 : Go.Proofs.Lays.n156 Tryd.prog Tryd.lays156_ren := {
  mixed := by kernel_rfl
  f156 := Tryd.func85.trans (congrArg some (by kernel_rfl))
  f165 := Tryd.func124.trans (congrArg some (by kernel_rfl))
  f166 := Tryd.func125.trans (congrArg some (by kernel_rfl))
  f169 := Tryd.func126.trans (congrArg some (by kernel_rfl))
  f240 := Tryd.func146.trans (congrArg some (by kernel_rfl))
  f241 := Tryd.func147.trans (congrArg some (by kernel_rfl))
  f276 := Tryd.func161.trans (congrArg some (by kernel_rfl))
  f277 := Tryd.func162.trans (congrArg some (by kernel_rfl))
  t0 := Tryd.underlying0
  a0 := Tryd.isAgg0
  z0 := Tryd.sizeOf0
  v0 := Tryd.zeroValue0
  t3 := Tryd.underlying3
  a3 := Tryd.isAgg3
  z3 := Tryd.sizeOf3
  v3 := Tryd.zeroValue3
  t4 := Tryd.underlying4
  a4 := Tryd.isAgg4
  z4 := Tryd.sizeOf4
  v4 := Tryd.zeroValue4
  t9 := Tryd.underlying9
  a9 := Tryd.isAgg9
  z9 := Tryd.sizeOf9
  v9 := Tryd.zeroValue9
  t20 := Tryd.underlying20
  a20 := Tryd.isAgg20
  z20 := Tryd.sizeOf20
  v20 := Tryd.zeroValue20
  t31 := Tryd.underlying70
  a31 := Tryd.isAgg70
  z31 := Tryd.sizeOf70
  v31 := Tryd.zeroValue70
  t37 := Tryd.underlying52
  a37 := Tryd.isAgg52
  z37 := Tryd.sizeOf52
  v37 := Tryd.zeroValue52
  t70 := Tryd.underlying142
  a70 := Tryd.isAgg142
  z70 := Tryd.sizeOf142
  v70 := Tryd.zeroValue142
  t72 := Tryd.underlying144
  a72 := Tryd.isAgg144
  z72 := Tryd.sizeOf144
  v72 := Tryd.zeroValue144
  t75 := Tryd.underlying126
  a75 := Tryd.isAgg126
  z75 := Tryd.sizeOf126
  v75 := Tryd.zeroValue126
  t76 := Tryd.underlying146
  a76 := Tryd.isAgg146
  z76 := Tryd.sizeOf146
  v76 := Tryd.zeroValue146
  t127 := Tryd.underlying158
  a127 := Tryd.isAgg158
  z127 := Tryd.sizeOf158
  v127 := Tryd.zeroValue158
  t164 := Tryd.underlying171
  a164 := Tryd.isAgg171
  z164 := Tryd.sizeOf171
  v164 := Tryd.zeroValue171 }
theorem Tryd.Builder_Extra_156 : Builder.Extra Tryd.prog Tryd.lays156_ren := {
  sizeBuilder := by kernel_rfl
  liesBuilder := by kernel_rfl
  t5 := Tryd.underlying5
  a5 := Tryd.isAgg5
  z5 := Tryd.sizeOf5
  v5 := Tryd.zeroValue5
  infoByte := by kernel_rfl
  cellsByte := by kernel_rfl
  sizeByte := by kernel_rfl
  neB5 := by decide }
def Tryd.laysM173_ren : Go.Shelf.Ren := ⟨fun | 173 => 130 | 246 => 148 | 283 => 163 | 284 => 164 | 285 => 165 | 286 => 166 | 129 => 178 | 317 => 177 | 318 => 179 | 319 => 180 | 320 => 181 | 337 => 185 | 338 => 186 | n => n, fun | 2 => 2 | 3 => 3 | 9 => 9 | 4 => 4 | 171 => 175 | 0 => 0 | 53 => 131 | 37 => 52 | 5 => 5 | 173 => 178 | 212 => 187 | 51 => 188 | 20 => 20 | 213 => 189 | 46 => 156 | 232 => 202 | 233 => 203 | n => n, fun | 17 => 3 | 18 => 6 | 19 => 7 | n => n⟩
theorem Tryd.laysM173 : Go.Proofs.LaysM.n173 Tryd.prog Tryd.laysM173_ren := {
  mixed := by kernel_rfl
  f129 := Tryd.func178.trans (congrArg some (by kernel_rfl))
  f173 := Tryd.func130.trans (congrArg some (by kernel_rfl))
  f246 := Tryd.func148.trans (congrArg some (by kernel_rfl))
  f283 := Tryd.func163.trans (congrArg some (by kernel_rfl))
  f284 := Tryd.func164.trans (congrArg some (by kernel_rfl))
  f285 := Tryd.func165.trans (congrArg some (by kernel_rfl))
  f286 := Tryd.func166.trans (congrArg some (by kernel_rfl))
  f317 := Tryd.func177.trans (congrArg some (by kernel_rfl))
  f318 := Tryd.func179.trans (congrArg some (by kernel_rfl))
  f319 := Tryd.func180.trans (congrArg some (by kernel_rfl))
  f320 := Tryd.func181.trans (congrArg some (by kernel_rfl))
  f337 := Tryd.func185.trans (congrArg some (by kernel_rfl))
  f338 := Tryd.func186.trans (congrArg some (by kernel_rfl))
  t0 := Tryd.underlying0
  a0 := Tryd.isAgg0
  z0 := Tryd.sizeOf0
  v0 := Tryd.zeroValue0
  t2 := Tryd.underlying2
  a2 := Tryd.isAgg2
  z2 := Tryd.sizeOf2
  v2 := Tryd.zeroValue2
  t3 := Tryd.underlying3
  a3 := Tryd.isAgg3
  z3 := Tryd.sizeOf3
  v3 := Tryd.zeroValue3
  t4 := Tryd.underlying4
  a4 := Tryd.isAgg4
  z4 := Tryd.sizeOf4
  v4 := Tryd.zeroValue4
  t5 := Tryd.underlying5
  a5 := Tryd.isAgg5
  z5 := Tryd.sizeOf5
  v5 := Tryd.zeroValue5
  t9 := Tryd.underlying9
  a9 := Tryd.isAgg9
  z9 := Tryd.sizeOf9
  v9 := Tryd.zeroValue9
  t20 := Tryd.underlying20
  a20 := Tryd.isAgg20
  z20 := Tryd.sizeOf20
  v20 := Tryd.zeroValue20
  t37 := Tryd.underlying52
  a37 := Tryd.isAgg52
  z37 := Tryd.sizeOf52
  v37 := Tryd.zeroValue52
  t46 := Tryd.underlying156
  a46 := Tryd.isAgg156
  z46 := Tryd.sizeOf156
  v46 := Tryd.zeroValue156
  t51 := Tryd.underlying188
  a51 := Tryd.isAgg188
  z51 := Tryd.sizeOf188
  v51 := Tryd.zeroValue188
  t53 := Tryd.underlying131
  a53 := Tryd.isAgg131
  z53 := Tryd.sizeOf131
  v53 := Tryd.zeroValue131
  t171 := Tryd.underlying175
  a171 := Tryd.isAgg175
  z171 := Tryd.sizeOf175
  v171 := Tryd.zeroValue175
  t173 := Tryd.underlying178
  a173 := Tryd.isAgg178
  z173 := Tryd.sizeOf178
  v173 := Tryd.zeroValue178
  t212 := Tryd.underlying187
  a212 := Tryd.isAgg187
  z212 := Tryd.sizeOf187
  v212 := Tryd.zeroValue187
  t213 := Tryd.underlying189
  a213 := Tryd.isAgg189
  z213 := Tryd.sizeOf189
  t232 := Tryd.underlying202
  a232 := Tryd.isAgg202
  z232 := Tryd.sizeOf202
  v232 := Tryd.zeroValue202
  t233 := Tryd.underlying203
  a233 := Tryd.isAgg203
  z233 := Tryd.sizeOf203
  v233 := Tryd.zeroValue203
  g17 := by kernel_rfl
  g18 := by kernel_rfl
  g19 := by kernel_rfl
  i0 := by kernel_rfl
  i2 := by kernel_rfl
  i3 := by kernel_rfl
  i4 := by kernel_rfl
  i5 := by kernel_rfl
  i9 := by kernel_rfl
  i20 := by kernel_rfl
  i37 := by kernel_rfl
  i46 := by kernel_rfl
  i51 := by kernel_rfl
  i53 := by kernel_rfl
  i171 := by kernel_rfl
  i173 := by kernel_rfl
  i212 := by kernel_rfl
  i232 := by kernel_rfl
  i233 := by kernel_rfl
  m17 := by kernel_rfl
  m18 := by kernel_rfl
  m19 := by kernel_rfl }
def Tryd.laysC174_ren : Go.Shelf.Ren := ⟨fun | 174 => 106 | 247 => 140 | 245 => 141 | 287 => 155 | 279 => 156 | 280 => 157 | 281 => 158 | 282 => 159 | 321 => 172 | 322 => 173 | 316 => 174 | 171 => 176 | 205 => 175 | 243 => 184 | 246 => 148 | 283 => 163 | 284 => 164 | 285 => 165 | 286 => 166 | 129 => 178 | 317 => 177 | 318 => 179 | 319 => 180 | 320 => 181 | 337 => 185 | 338 => 186 | n => n, fun | 9 => 9 | 3 => 3 | 2 => 2 | 75 => 126 | 85 => 127 | 4 => 4 | 167 => 164 | 5 => 5 | 53 => 131 | 175 => 165 | 46 => 156 | 168 => 167 | 37 => 52 | 0 => 0 | 210 => 184 | 21 => 21 | 127 => 158 | 145 => 200 | 143 => 198 | 171 => 175 | 173 => 178 | 212 => 187 | 51 => 188 | 20 => 20 | 213 => 189 | 232 => 202 | 233 => 203 | 80 => 67 | n => n, fun | 15 => 1 | 16 => 2 | 17 => 3 | 18 => 6 | 19 => 7 | n => n⟩
theorem Tryd.laysC174 : Go.Proofs.LaysC.n174 Tryd.prog Tryd.laysC174_ren := {
  mixed := by kernel_rfl
  f129 := Tryd.func178.trans (congrArg some (by kernel_rfl))
  f171 := Tryd.func176.trans (congrArg some (by kernel_rfl))
  f174 := Tryd.func106.trans (congrArg some (by kernel_rfl))
  f205 := Tryd.func175.trans (congrArg some (by kernel_rfl))
  f243 := Tryd.func184.trans (congrArg some (by kernel_rfl))
  f245 := Tryd.func141.trans (congrArg some (by kernel_rfl))
  f246 := Tryd.func148.trans (congrArg some (by kernel_rfl))
  f247 := Tryd.func140.trans (congrArg some (by kernel_rfl))
  f279 := Tryd.func156.trans (congrArg some (by kernel_rfl))
  f280 := Tryd.func157.trans (congrArg some (by kernel_rfl))
  f281 := Tryd.func158.trans (congrArg some (by kernel_rfl))
  f282 := Tryd.func159.trans (congrArg some (by kernel_rfl))
  f283 := Tryd.func163.trans (congrArg some (by kernel_rfl))
  f284 := Tryd.func164.trans (congrArg some (by kernel_rfl))
  f285 := Tryd.func165.trans (congrArg some (by kernel_rfl))
  f286 := Tryd.func166.trans (congrArg some (by kernel_rfl))
  f287 := Tryd.func155.trans (congrArg some (by kernel_rfl))
  f316 := Tryd.func174.trans (congrArg some (by kernel_rfl))
  f317 := Tryd.func177.trans (congrArg some (by kernel_rfl))
  f318 := Tryd.func179.trans (congrArg some (by kernel_rfl))
  f319 := Tryd.func180.trans (congrArg some (by kernel_rfl))
  f320 := Tryd.func181.trans (congrArg some (by kernel_rfl))
  f321 := Tryd.func172.trans (congrArg some (by kernel_rfl))
  f322 := Tryd.func173.trans (congrArg some (by kernel_rfl))
  f337 := Tryd.func185.trans (congrArg some (by kernel_rfl))
  f338 := Tryd.func186.trans (congrArg some (by kernel_rfl))
  t0 := Tryd.underlying0
  a0 := Tryd.isAgg0
  z0 := Tryd.sizeOf0
  v0 := Tryd.zeroValue0
  t2 := Tryd.underlying2
  a2 := Tryd.isAgg2
  z2 := Tryd.sizeOf2
  v2 := Tryd.zeroValue2
  t3 := Tryd.underlying3
  a3 := Tryd.isAgg3
  z3 := Tryd.sizeOf3
  v3 := Tryd.zeroValue3
  t4 := Tryd.underlying4
  a4 := Tryd.isAgg4
  z4 := Tryd.sizeOf4
  v4 := Tryd.zeroValue4
  t5 := Tryd.underlying5
  a5 := Tryd.isAgg5
  z5 := Tryd.sizeOf5
  v5 := Tryd.zeroValue5
  t9 := Tryd.underlying9
  a9 := Tryd.isAgg9
  z9 := Tryd.sizeOf9
  v9 := Tryd.zeroValue9
  t20 := Tryd.underlying20
  a20 := Tryd.isAgg20
  z20 := Tryd.sizeOf20
  v20 := Tryd.zeroValue20
  t21 := Tryd.underlying21
  a21 := Tryd.isAgg21
  z21 := Tryd.sizeOf21
  v21 := Tryd.zeroValue21
  t37 := Tryd.underlying52
  a37 := Tryd.isAgg52
  z37 := Tryd.sizeOf52
  v37 := Tryd.zeroValue52
  t46 := Tryd.underlying156
  a46 := Tryd.isAgg156
  z46 := Tryd.sizeOf156
  v46 := Tryd.zeroValue156
  t51 := Tryd.underlying188
  a51 := Tryd.isAgg188
  z51 := Tryd.sizeOf188
  v51 := Tryd.zeroValue188
  t53 := Tryd.underlying131
  a53 := Tryd.isAgg131
  z53 := Tryd.sizeOf131
  v53 := Tryd.zeroValue131
  t75 := Tryd.underlying126
  a75 := Tryd.isAgg126
  z75 := Tryd.sizeOf126
  v75 := Tryd.zeroValue126
  t85 := Tryd.underlying127
  a85 := Tryd.isAgg127
  z85 := Tryd.sizeOf127
  v85 := Tryd.zeroValue127
  t127 := Tryd.underlying158
  a127 := Tryd.isAgg158
  z127 := Tryd.sizeOf158
  v127 := Tryd.zeroValue158
  t143 := Tryd.underlying198
  a143 := Tryd.isAgg198
  z143 := Tryd.sizeOf198
  v143 := Tryd.zeroValue198
  t145 := Tryd.underlying200
  a145 := Tryd.isAgg200
  z145 := Tryd.sizeOf200
  v145 := Tryd.zeroValue200
  t167 := Tryd.underlying164
  a167 := Tryd.isAgg164
  z167 := Tryd.sizeOf164
  v167 := Tryd.zeroValue164
  t168 := Tryd.underlying167
  a168 := Tryd.isAgg167
  z168 := Tryd.sizeOf167
  v168 := Tryd.zeroValue167
  t171 := Tryd.underlying175
  a171 := Tryd.isAgg175
  z171 := Tryd.sizeOf175
  v171 := Tryd.zeroValue175
  t173 := Tryd.underlying178
  a173 := Tryd.isAgg178
  z173 := Tryd.sizeOf178
  v173 := Tryd.zeroValue178
  t175 := Tryd.underlying165
  a175 := Tryd.isAgg165
  z175 := Tryd.sizeOf165
  v175 := Tryd.zeroValue165
  t210 := Tryd.underlying184
  a210 := Tryd.isAgg184
  z210 := Tryd.sizeOf184
  v210 := Tryd.zeroValue184
  t212 := Tryd.underlying187
  a212 := Tryd.isAgg187
  z212 := Tryd.sizeOf187
  v212 := Tryd.zeroValue187
  t213 := Tryd.underlying189
  a213 := Tryd.isAgg189
  z213 := Tryd.sizeOf189
  t232 := Tryd.underlying202
  a232 := Tryd.isAgg202
  z232 := Tryd.sizeOf202
  v232 := Tryd.zeroValue202
  t233 := Tryd.underlying203
  a233 := Tryd.isAgg203
  z233 := Tryd.sizeOf203
  v233 := Tryd.zeroValue203
  g15 := by kernel_rfl
  g16 := by kernel_rfl
  g17 := by kernel_rfl
  g18 := by kernel_rfl
  g19 := by kernel_rfl
  t80 := Tryd.underlying67
  a80 := Tryd.isAgg67
  z80 := Tryd.sizeOf67
  v80 := Tryd.zeroValue67
  i0 := by kernel_rfl
  i2 := by kernel_rfl
  i3 := by kernel_rfl
  i4 := by kernel_rfl
  i5 := by kernel_rfl
  i9 := by kernel_rfl
  i20 := by kernel_rfl
  i21 := by kernel_rfl
  i37 := by kernel_rfl
  i46 := by kernel_rfl
  i51 := by kernel_rfl
  i53 := by kernel_rfl
  i75 := by kernel_rfl
  i80 := by kernel_rfl
  i85 := by kernel_rfl
  i127 := by kernel_rfl
  i143 := by kernel_rfl
  i145 := by kernel_rfl
  i167 := by kernel_rfl
  i168 := by kernel_rfl
  i171 := by kernel_rfl
  i173 := by kernel_rfl
  i175 := by kernel_rfl
  i210 := by kernel_rfl
  i212 := by kernel_rfl
  i232 := by kernel_rfl
  i233 := by kernel_rfl
  m15 := by kernel_rfl
  m16 := by kernel_rfl
  m17 := by kernel_rfl
  m18 := by kernel_rfl
  m19 := by kernel_rfl
  c0 := by kernel_rfl
  c2 := by kernel_rfl
  c3 := by kernel_rfl
  c4 := by kernel_rfl
  c5 := by kernel_rfl
  c9 := by kernel_rfl
  c20 := by kernel_rfl
  c21 := by kernel_rfl
  c37 := by kernel_rfl
  c46 := by kernel_rfl
  c51 := by kernel_rfl
  c53 := by kernel_rfl
  c75 := by kernel_rfl
  c80 := by kernel_rfl
  c85 := by kernel_rfl
  c127 := by kernel_rfl
  c143 := by kernel_rfl
  c145 := by kernel_rfl
  c167 := by kernel_rfl
  c168 := by kernel_rfl
  c171 := by kernel_rfl
  c173 := by kernel_rfl
  c175 := by kernel_rfl
  c210 := by kernel_rfl
  c212 := by kernel_rfl
  c213 := by kernel_rfl
  c232 := by kernel_rfl
  c233 := by kernel_rfl }
def Tryd.lays146_ren : Go.Shelf.Ren := ⟨fun | 146 => 61 | 221 => 103 | 268 => 136 | 138 => 137 | 143 => 138 | 195 => 150 | 197 => 151 | 218 => 152 | 219 => 153 | 260 => 167 | 217 => 168 | 225 => 169 | 224 => 170 | 267 => 171 | 266 => 182 | 314 => 183 | n => n, fun | 9 => 9 | 31 => 70 | 3 => 3 | 4 => 4 | 0 => 0 | 105 => 161 | 21 => 21 | 5 => 5 | 46 => 156 | 119 => 192 | 139 => 195 | 138 => 194 | 146 => 196 | 51 => 188 | n => n, fun | 1 => 0 | 3 => 4 | 4 => 5 | n => n⟩
theorem Tryd.lays146 : Go.Proofs.Lays.n146 Tryd.prog Tryd.lays146_ren := {
  mixed := by kernel_rfl
  f138 := Tryd.func137.trans (congrArg some (by kernel_rfl))
  f143 := Tryd.func138.trans (congrArg some (by kernel_rfl))
  f146 := Tryd.func61.trans (congrArg some (by kernel_rfl))
  f195 := Tryd.func150.trans (congrArg some (by kernel_rfl))
  f197 := Tryd.func151.trans (congrArg some (by kernel_rfl))
  f217 := Tryd.func168.trans (congrArg some (by kernel_rfl))
  f218 := Tryd.func152.trans (congrArg some (by kernel_rfl))
  f219 := Tryd.func153.trans (congrArg some (by kernel_rfl))
  f221 := Tryd.func103.trans (congrArg some (by kernel_rfl))
  f224 := Tryd.func170.trans (congrArg some (by kernel_rfl))
  f225 := Tryd.func169.trans (congrArg some (by kernel_rfl))
  f260 := Tryd.func167.trans (congrArg some (by kernel_rfl))
  f266 := Tryd.func182.trans (congrArg some (by kernel_rfl))
  f267 := Tryd.func171.trans (congrArg some (by kernel_rfl))
  f268 := Tryd.func136.trans (congrArg some (by kernel_rfl))
  f314 := Tryd.func183.trans (congrArg some (by kernel_rfl))
  t0 := Tryd.underlying0
  a0 := Tryd.isAgg0
  z0 := Tryd.sizeOf0
  v0 := Tryd.zeroValue0
  t3 := Tryd.underlying3
  a3 := Tryd.isAgg3
  z3 := Tryd.sizeOf3
  v3 := Tryd.zeroValue3
  t4 := Tryd.underlying4
  a4 := Tryd.isAgg4
  z4 := Tryd.sizeOf4
  v4 := Tryd.zeroValue4
  t5 := Tryd.underlying5
  a5 := Tryd.isAgg5
  z5 := Tryd.sizeOf5
  v5 := Tryd.zeroValue5
  t9 := Tryd.underlying9
  a9 := Tryd.isAgg9
  z9 := Tryd.sizeOf9
  v9 := Tryd.zeroValue9
  t21 := Tryd.underlying21
  a21 := Tryd.isAgg21
  z21 := Tryd.sizeOf21
  v21 := Tryd.zeroValue21
  t31 := Tryd.underlying70
  a31 := Tryd.isAgg70
  z31 := Tryd.sizeOf70
  v31 := Tryd.zeroValue70
  t46 := Tryd.underlying156
  a46 := Tryd.isAgg156
  z46 := Tryd.sizeOf156
  v46 := Tryd.zeroValue156
  t51 := Tryd.underlying188
  a51 := Tryd.isAgg188
  z51 := Tryd.sizeOf188
  v51 := Tryd.zeroValue188
  t105 := Tryd.underlying161
  a105 := Tryd.isAgg161
  z105 := Tryd.sizeOf161
  v105 := Tryd.zeroValue161
  t119 := Tryd.underlying192
  a119 := Tryd.isAgg192
  z119 := Tryd.sizeOf192
  t138 := Tryd.underlying194
  a138 := Tryd.isAgg194
  z138 := Tryd.sizeOf194
  v138 := Tryd.zeroValue194
  t139 := Tryd.underlying195
  a139 := Tryd.isAgg195
  z139 := Tryd.sizeOf195
  v139 := Tryd.zeroValue195
  t146 := Tryd.underlying196
  a146 := Tryd.isAgg196
  z146 := Tryd.sizeOf196
  v146 := Tryd.zeroValue196
  g1 := by kernel_rfl
  g3 := by kernel_rfl
  g4 := by kernel_rfl }
namespace TM
theorem strings_Join_ok : RuleOk Tryd.prog 85 join_r := joinS_ok Tryd.lays156 Tryd.Builder_Extra_156 rfl ⟨_, Tryd.func85, by kernel_rfl, by kernel_rfl⟩
theorem pow10_tab (w : World) (I : Nat → Nat → Prop) (h : Lt w I) : Lib.TabIs Tryd.prog w "internal/strconv.uint64pow10" .u64 Lib.pow10Tab := by
  obtain ⟨⟨cs, ty, fr, h1, h2⟩, _⟩ := h.g _ (List.Mem.head _)
  dsimp only at h1 h2
  subst h2
  unfold Lib.TabIs World.var?
  rw [show Tryd.prog.globalNamed "internal/strconv.uint64pow10" = some 3 from by kernel_rfl]
  simp only [Option.bind_some, h1]
theorem strconv_FormatInt_ok : RuleOk Tryd.prog 130 fmt_r := fmt_ok Tryd.laysM173 rfl ⟨_, Tryd.func130, by kernel_rfl, by kernel_rfl⟩ pow10_tab

set_option maxHeartbeats 1000000 in
set_option maxRecDepth 1000000 in
theorem dec_walk (n : Int) (h0 : -9223372036854775808 ≤ n) (h1 : n ≤ 9223372036854775807) (w : World) (ht : Lib.TabIs Tryd.prog w "internal/strconv.uint64pow10" .u64 Lib.pow10Tab) :
    Calls Tryd.prog 92 #[.int .i64 n] w fun e w' => e = .returned (.string ⟨(Lib.itoa n).toArray⟩) ∧ RowKit.Below w.heap.size w w' := by
  have cF : Calls Tryd.prog 130 #[.int .i64 n, .int .i64 10] w _ := Any.strconv_FormatInt_10 Tryd.laysM173 n h0 h1 w ht
  go_enter Tryd.func92, Tryd.ntmps92
  go_wp2_with (go_at_call 130; refine cF.mono ?_; rintro e w' ⟨rfl, k, os, rfl⟩)
  go_ret
  exact ⟨rfl, below_grow w k os⟩
theorem tab_below {w w' : World} {zs : List Int} (h : Lib.TabIs Tryd.prog w "internal/strconv.uint64pow10" .u64 zs) (hb : RowKit.Below w.heap.size w w') : Lib.TabIs Tryd.prog w' "internal/strconv.uint64pow10" .u64 zs := by
  unfold Lib.TabIs World.var? at h ⊢
  rw [show Tryd.prog.globalNamed "internal/strconv.uint64pow10" = some 3 from by kernel_rfl, Option.bind_some] at h ⊢
  have hlt : 3 < w.heap.size := by
    rcases Nat.lt_or_ge 3 w.heap.size with h' | h'
    · exact h'
    · simp [Array.getElem?_eq_none h'] at h
  rw [hb.block _ hlt]; exact h
set_option maxHeartbeats 1000000 in
set_option maxRecDepth 1000000 in
theorem rdec_walk (s : ByteArray) (n : Int) (b : Bool) (w : World) (I : Nat → Nat → Prop) (hI : Lt w I) (h : rdecS s.data.toList = some (n, b)) :
    Calls Tryd.prog 63 #[.string s] w fun e w' => e = .returned (.tuple #[.int .i64 n, .bool b]) ∧ RowKit.Below w.heap.size w w' := by
  unfold rdecS at h
  split at h
  · rename_i hs
    have hsz : s.size ≤ 140737488355328 := hs
    have ht := pow10_tab w I hI
    have gm1 : (1, ErrC) ∈ gblocks := List.Mem.tail _ (List.Mem.head _)
    have gm2 : (2, ErrC) ∈ gblocks := List.Mem.tail _ (List.Mem.tail _ (List.Mem.head _))
    obtain ⟨t1, x1, c1⟩ := err_cell hI gm1
    obtain ⟨t2, x2, c2⟩ := err_cell hI gm2
    cases hp : Lib.parseIntB 64 s.data.toList with
    | ok v =>
      rw [hp] at h
      simp only [Option.some.injEq, Prod.mk.injEq] at h
      obtain ⟨rfl, rfl⟩ := h
      have hv := Lib.parseIntB_bounds hp
      have cP : Calls Tryd.prog 106 #[.string s, .int .i64 10, .int .i64 64] w _ := Any.strconv_ParseInt_10_at64_ok Tryd.laysC174 s (by omega) v hp w
      go_enter Tryd.func63, Tryd.ntmps63
      go_wp2_with (go_at_call 106; refine cP.mono ?_; rintro e W1 ⟨rfl, hW⟩)
      have hb1 : RowKit.Below w.heap.size w W1 := by
        rcases hW with rfl | ⟨t, rfl⟩
        · exact RowKit.Below.refl _ _
        · exact Lib.bytesWorld_below _ _ _
      clear hW
      have cD := dec_walk v (by have := hv.1; simp at this; omega) (by have := hv.2; simp at this; omega) W1 (tab_below ht hb1)
      go_wp2_with (go_at_call 92; refine cD.mono ?_; rintro e W2 ⟨rfl, hb2⟩)
      go_ret2
      refine ⟨?_, hb1.trans (hb2.mono hb1.size)⟩
      rw [ByteArray.toList_eq]
      by_cases hq : Lib.itoa v = s.data.toList <;> simp [hq]
    | «syntax» =>
      rw [hp] at h
      simp only [Option.some.injEq, Prod.mk.injEq] at h
      obtain ⟨rfl, rfl⟩ := h
      have cP : Calls Tryd.prog 106 #[.string s, .int .i64 10, .int .i64 64] w _ := Any.strconv_ParseInt_10_at64_syntax Tryd.laysC174 s (by omega) hp _ w c1 (.inr ⟨_, _, rfl⟩)
      go_enter Tryd.func63, Tryd.ntmps63
      go_wp2_with (go_at_call 106; refine cP.mono ?_; rintro e W1 ⟨N, rfl, hN, hW, hb⟩)
      go_ret2
      exact ⟨rfl, hb⟩
    | range =>
      rw [hp] at h
      simp only [Option.some.injEq, Prod.mk.injEq] at h
      obtain ⟨rfl, rfl⟩ := h
      have cP : Calls Tryd.prog 106 #[.string s, .int .i64 10, .int .i64 64] w _ := Any.strconv_ParseInt_10_at64_range Tryd.laysC174 s (by omega) hp _ w c2 (.inr ⟨_, _, rfl⟩)
      generalize Lib.intSat 64 s.data.toList = sat at cP ⊢
      go_enter Tryd.func63, Tryd.ntmps63
      go_wp2_with (go_at_call 106; refine cP.mono ?_; rintro e W1 ⟨N, rfl, hN, hW, hb⟩)
      go_ret2
      exact ⟨rfl, hb⟩
  · cases h
theorem impl_readDecimal_ok : RuleOk Tryd.prog 63 rdec_r := rdec_of ⟨_, Tryd.func63, by kernel_rfl, by kernel_rfl⟩ rdec_walk
theorem strings_Split_ok : RuleOk Tryd.prog 61 split_r := split_ok Tryd.lays146 (by kernel_rfl) rfl ⟨_, Tryd.func61, by kernel_rfl, by kernel_rfl⟩ fun w I h => int_cell h (List.Mem.tail _ (List.Mem.tail _ (List.Mem.tail _ (List.Mem.head _))))
end TM
end Go.Proofs
