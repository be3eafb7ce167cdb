/- The library's contracts, laid at this program's numbers; the rules of them. -/
import Derived.Shelf.Strings.Repeat
import Derived.Test.YtcmhbjnmjfhgaaaGreatDoorTTxt
import Derived.Test.YtcmhbjnmjfhgaaaGreatDoorTSpl
import Derived.Test.YtcmhbjnmjfhgaaaGreatDoorProg
namespace Go.Proofs
open Go.Shelf
def Tryz.lays156_ren : Go.Shelf.Ren := ⟨fun | 156 => 87 | 165 => 133 | 166 => 134 | 169 => 135 | 240 => 177 | 241 => 178 | 276 => 218 | 277 => 219 | n => n, fun | 31 => 37 | 9 => 9 | 3 => 3 | 4 => 4 | 0 => 0 | 20 => 20 | 72 => 187 | 76 => 191 | 70 => 185 | 37 => 22 | 75 => 190 | 127 => 225 | 164 => 251 | 5 => 5 | 80 => 82 | n => n, fun | n => n⟩
theorem Tryz.lays156 : Go.Proofs.Lays.n156 Tryz.prog Tryz.lays156_ren := {
  mixed := by kernel_rfl
  f156 := Tryz.func87.trans (congrArg some (by kernel_rfl))
  f165 := Tryz.func133.trans (congrArg some (by kernel_rfl))
  f166 := Tryz.func134.trans (congrArg some (by kernel_rfl))
  f169 := Tryz.func135.trans (congrArg some (by kernel_rfl))
  f240 := Tryz.func177.trans (congrArg some (by kernel_rfl))
  f241 := Tryz.func178.trans (congrArg some (by kernel_rfl))
  f276 := Tryz.func218.trans (congrArg some (by kernel_rfl))
  f277 := Tryz.func219.trans (congrArg some (by kernel_rfl))
  t0 := Tryz.underlying0
  a0 := Tryz.isAgg0
  z0 := Tryz.sizeOf0
  v0 := Tryz.zeroValue0
  t3 := Tryz.underlying3
  a3 := Tryz.isAgg3
  z3 := Tryz.sizeOf3
  v3 := Tryz.zeroValue3
  t4 := Tryz.underlying4
  a4 := Tryz.isAgg4
  z4 := Tryz.sizeOf4
  v4 := Tryz.zeroValue4
  t9 := Tryz.underlying9
  a9 := Tryz.isAgg9
  z9 := Tryz.sizeOf9
  v9 := Tryz.zeroValue9
  t20 := Tryz.underlying20
  a20 := Tryz.isAgg20
  z20 := Tryz.sizeOf20
  v20 := Tryz.zeroValue20
  t31 := Tryz.underlying37
  a31 := Tryz.isAgg37
  z31 := Tryz.sizeOf37
  v31 := Tryz.zeroValue37
  t37 := Tryz.underlying22
  a37 := Tryz.isAgg22
  z37 := Tryz.sizeOf22
  v37 := Tryz.zeroValue22
  t70 := Tryz.underlying185
  a70 := Tryz.isAgg185
  z70 := Tryz.sizeOf185
  v70 := Tryz.zeroValue185
  t72 := Tryz.underlying187
  a72 := Tryz.isAgg187
  z72 := Tryz.sizeOf187
  v72 := Tryz.zeroValue187
  t75 := Tryz.underlying190
  a75 := Tryz.isAgg190
  z75 := Tryz.sizeOf190
  v75 := Tryz.zeroValue190
  t76 := Tryz.underlying191
  a76 := Tryz.isAgg191
  z76 := Tryz.sizeOf191
  v76 := Tryz.zeroValue191
  t127 := Tryz.underlying225
  a127 := Tryz.isAgg225
  z127 := Tryz.sizeOf225
  v127 := Tryz.zeroValue225
  t164 := Tryz.underlying251
  a164 := Tryz.isAgg251
  z164 := Tryz.sizeOf251
  v164 := Tryz.zeroValue251 }
theorem Tryz.Builder_Extra_156 : Builder.Extra Tryz.prog Tryz.lays156_ren := {
  sizeBuilder := by kernel_rfl
  liesBuilder := by kernel_rfl
  t5 := Tryz.underlying5
  a5 := Tryz.isAgg5
  z5 := Tryz.sizeOf5
  v5 := Tryz.zeroValue5
  infoByte := by kernel_rfl
  cellsByte := by kernel_rfl
  sizeByte := by kernel_rfl
  neB5 := by decide }
def Tryz.laysM173_ren : Go.Shelf.Ren := ⟨fun | 173 => 132 | 246 => 176 | 283 => 214 | 284 => 215 | 285 => 216 | 286 => 217 | 129 => 245 | 317 => 244 | 318 => 246 | 319 => 247 | 320 => 248 | 337 => 261 | 338 => 262 | n => n, fun | 2 => 2 | 3 => 3 | 9 => 9 | 4 => 4 | 171 => 246 | 0 => 0 | 53 => 127 | 37 => 22 | 5 => 5 | 173 => 249 | 212 => 278 | 51 => 279 | 20 => 20 | 213 => 280 | 46 => 177 | 232 => 303 | 233 => 304 | n => n, fun | 17 => 0 | 18 => 4 | 19 => 5 | n => n⟩
theorem Tryz.laysM173 : Go.Proofs.LaysM.n173 Tryz.prog Tryz.laysM173_ren := {
  mixed := by kernel_rfl
  f129 := Tryz.func245.trans (congrArg some (by kernel_rfl))
  f173 := Tryz.func132.trans (congrArg some (by kernel_rfl))
  f246 := Tryz.func176.trans (congrArg some (by kernel_rfl))
  f283 := Tryz.func214.trans (congrArg some (by kernel_rfl))
  f284 := Tryz.func215.trans (congrArg some (by kernel_rfl))
  f285 := Tryz.func216.trans (congrArg some (by kernel_rfl))
  f286 := Tryz.func217.trans (congrArg some (by kernel_rfl))
  f317 := Tryz.func244.trans (congrArg some (by kernel_rfl))
  f318 := Tryz.func246.trans (congrArg some (by kernel_rfl))
  f319 := Tryz.func247.trans (congrArg some (by kernel_rfl))
  f320 := Tryz.func248.trans (congrArg some (by kernel_rfl))
  f337 := Tryz.func261.trans (congrArg some (by kernel_rfl))
  f338 := Tryz.func262.trans (congrArg some (by kernel_rfl))
  t0 := Tryz.underlying0
  a0 := Tryz.isAgg0
  z0 := Tryz.sizeOf0
  v0 := Tryz.zeroValue0
  t2 := Tryz.underlying2
  a2 := Tryz.isAgg2
  z2 := Tryz.sizeOf2
  v2 := Tryz.zeroValue2
  t3 := Tryz.underlying3
  a3 := Tryz.isAgg3
  z3 := Tryz.sizeOf3
  v3 := Tryz.zeroValue3
  t4 := Tryz.underlying4
  a4 := Tryz.isAgg4
  z4 := Tryz.sizeOf4
  v4 := Tryz.zeroValue4
  t5 := Tryz.underlying5
  a5 := Tryz.isAgg5
  z5 := Tryz.sizeOf5
  v5 := Tryz.zeroValue5
  t9 := Tryz.underlying9
  a9 := Tryz.isAgg9
  z9 := Tryz.sizeOf9
  v9 := Tryz.zeroValue9
  t20 := Tryz.underlying20
  a20 := Tryz.isAgg20
  z20 := Tryz.sizeOf20
  v20 := Tryz.zeroValue20
  t37 := Tryz.underlying22
  a37 := Tryz.isAgg22
  z37 := Tryz.sizeOf22
  v37 := Tryz.zeroValue22
  t46 := Tryz.underlying177
  a46 := Tryz.isAgg177
  z46 := Tryz.sizeOf177
  v46 := Tryz.zeroValue177
  t51 := Tryz.underlying279
  a51 := Tryz.isAgg279
  z51 := Tryz.sizeOf279
  v51 := Tryz.zeroValue279
  t53 := Tryz.underlying127
  a53 := Tryz.isAgg127
  z53 := Tryz.sizeOf127
  v53 := Tryz.zeroValue127
  t171 := Tryz.underlying246
  a171 := Tryz.isAgg246
  z171 := Tryz.sizeOf246
  v171 := Tryz.zeroValue246
  t173 := Tryz.underlying249
  a173 := Tryz.isAgg249
  z173 := Tryz.sizeOf249
  v173 := Tryz.zeroValue249
  t212 := Tryz.underlying278
  a212 := Tryz.isAgg278
  z212 := Tryz.sizeOf278
  v212 := Tryz.zeroValue278
  t213 := Tryz.underlying280
  a213 := Tryz.isAgg280
  z213 := Tryz.sizeOf280
  t232 := Tryz.underlying303
  a232 := Tryz.isAgg303
  z232 := Tryz.sizeOf303
  v232 := Tryz.zeroValue303
  t233 := Tryz.underlying304
  a233 := Tryz.isAgg304
  z233 := Tryz.sizeOf304
  v233 := Tryz.zeroValue304
  g17 := by kernel_rfl
  g18 := by kernel_rfl
  g19 := by kernel_rfl
  i0 := by kernel_rfl
  i2 := by kernel_rfl
  i3 := by kernel_rfl
  i4 := by kernel_rfl
  i5 := by kernel_rfl
  i9 := by kernel_rfl
  i20 := by kernel_rfl
  i37 := by kernel_rfl
  i46 := by kernel_rfl
  i51 := by kernel_rfl
  i53 := by kernel_rfl
  i171 := by kernel_rfl
  i173 := by kernel_rfl
  i212 := by kernel_rfl
  i232 := by kernel_rfl
  i233 := by kernel_rfl
  m17 := by kernel_rfl
  m18 := by kernel_rfl
  m19 := by kernel_rfl }
def Tryz.laysC174_ren : Go.Shelf.Ren := ⟨fun | 174 => 175 | 247 => 212 | 245 => 213 | 287 => 239 | 279 => 240 | 280 => 241 | 281 => 242 | 282 => 243 | 321 => 256 | 322 => 257 | 316 => 258 | 171 => 260 | 205 => 259 | 243 => 270 | 246 => 176 | 283 => 214 | 284 => 215 | 285 => 216 | 286 => 217 | 129 => 245 | 317 => 244 | 318 => 246 | 319 => 247 | 320 => 248 | 337 => 261 | 338 => 262 | n => n, fun | 9 => 9 | 3 => 3 | 2 => 2 | 75 => 190 | 85 => 223 | 4 => 4 | 167 => 270 | 5 => 5 | 53 => 127 | 175 => 271 | 46 => 177 | 168 => 273 | 37 => 22 | 0 => 0 | 210 => 288 | 21 => 21 | 127 => 225 | 145 => 302 | 143 => 300 | 171 => 246 | 173 => 249 | 212 => 278 | 51 => 279 | 20 => 20 | 213 => 280 | 232 => 303 | 233 => 304 | 80 => 82 | n => n, fun | 15 => 2 | 16 => 3 | 17 => 0 | 18 => 4 | 19 => 5 | n => n⟩
theorem Tryz.laysC174 : Go.Proofs.LaysC.n174 Tryz.prog Tryz.laysC174_ren := {
  mixed := by kernel_rfl
  f129 := Tryz.func245.trans (congrArg some (by kernel_rfl))
  f171 := Tryz.func260.trans (congrArg some (by kernel_rfl))
  f174 := Tryz.func175.trans (congrArg some (by kernel_rfl))
  f205 := Tryz.func259.trans (congrArg some (by kernel_rfl))
  f243 := Tryz.func270.trans (congrArg some (by kernel_rfl))
  f245 := Tryz.func213.trans (congrArg some (by kernel_rfl))
  f246 := Tryz.func176.trans (congrArg some (by kernel_rfl))
  f247 := Tryz.func212.trans (congrArg some (by kernel_rfl))
  f279 := Tryz.func240.trans (congrArg some (by kernel_rfl))
  f280 := Tryz.func241.trans (congrArg some (by kernel_rfl))
  f281 := Tryz.func242.trans (congrArg some (by kernel_rfl))
  f282 := Tryz.func243.trans (congrArg some (by kernel_rfl))
  f283 := Tryz.func214.trans (congrArg some (by kernel_rfl))
  f284 := Tryz.func215.trans (congrArg some (by kernel_rfl))
  f285 := Tryz.func216.trans (congrArg some (by kernel_rfl))
  f286 := Tryz.func217.trans (congrArg some (by kernel_rfl))
  f287 := Tryz.func239.trans (congrArg some (by kernel_rfl))
  f316 := Tryz.func258.trans (congrArg some (by kernel_rfl))
  f317 := Tryz.func244.trans (congrArg some (by kernel_rfl))
  f318 := Tryz.func246.trans (congrArg some (by kernel_rfl))
  f319 := Tryz.func247.trans (congrArg some (by kernel_rfl))
  f320 := Tryz.func248.trans (congrArg some (by kernel_rfl))
  f321 := Tryz.func256.trans (congrArg some (by kernel_rfl))
  f322 := Tryz.func257.trans (congrArg some (by kernel_rfl))
  f337 := Tryz.func261.trans (congrArg some (by kernel_rfl))
  f338 := Tryz.func262.trans (congrArg some (by kernel_rfl))
  t0 := Tryz.underlying0
  a0 := Tryz.isAgg0
  z0 := Tryz.sizeOf0
  v0 := Tryz.zeroValue0
  t2 := Tryz.underlying2
  a2 := Tryz.isAgg2
  z2 := Tryz.sizeOf2
  v2 := Tryz.zeroValue2
  t3 := Tryz.underlying3
  a3 := Tryz.isAgg3
  z3 := Tryz.sizeOf3
  v3 := Tryz.zeroValue3
  t4 := Tryz.underlying4
  a4 := Tryz.isAgg4
  z4 := Tryz.sizeOf4
  v4 := Tryz.zeroValue4
  t5 := Tryz.underlying5
  a5 := Tryz.isAgg5
  z5 := Tryz.sizeOf5
  v5 := Tryz.zeroValue5
  t9 := Tryz.underlying9
  a9 := Tryz.isAgg9
  z9 := Tryz.sizeOf9
  v9 := Tryz.zeroValue9
  t20 := Tryz.underlying20
  a20 := Tryz.isAgg20
  z20 := Tryz.sizeOf20
  v20 := Tryz.zeroValue20
  t21 := Tryz.underlying21
  a21 := Tryz.isAgg21
  z21 := Tryz.sizeOf21
  v21 := Tryz.zeroValue21
  t37 := Tryz.underlying22
  a37 := Tryz.isAgg22
  z37 := Tryz.sizeOf22
  v37 := Tryz.zeroValue22
  t46 := Tryz.underlying177
  a46 := Tryz.isAgg177
  z46 := Tryz.sizeOf177
  v46 := Tryz.zeroValue177
  t51 := Tryz.underlying279
  a51 := Tryz.isAgg279
  z51 := Tryz.sizeOf279
  v51 := Tryz.zeroValue279
  t53 := Tryz.underlying127
  a53 := Tryz.isAgg127
  z53 := Tryz.sizeOf127
  v53 := Tryz.zeroValue127
  t75 := Tryz.underlying190
  a75 := Tryz.isAgg190
  z75 := Tryz.sizeOf190
  v75 := Tryz.zeroValue190
  t85 := Tryz.underlying223
  a85 := Tryz.isAgg223
  z85 := Tryz.sizeOf223
  v85 := Tryz.zeroValue223
  t127 := Tryz.underlying225
  a127 := Tryz.isAgg225
  z127 := Tryz.sizeOf225
  v127 := Tryz.zeroValue225
  t143 := Tryz.underlying300
  a143 := Tryz.isAgg300
  z143 := Tryz.sizeOf300
  v143 := Tryz.zeroValue300
  t145 := Tryz.underlying302
  a145 := Tryz.isAgg302
  z145 := Tryz.sizeOf302
  v145 := Tryz.zeroValue302
  t167 := Tryz.underlying270
  a167 := Tryz.isAgg270
  z167 := Tryz.sizeOf270
  v167 := Tryz.zeroValue270
  t168 := Tryz.underlying273
  a168 := Tryz.isAgg273
  z168 := Tryz.sizeOf273
  v168 := Tryz.zeroValue273
  t171 := Tryz.underlying246
  a171 := Tryz.isAgg246
  z171 := Tryz.sizeOf246
  v171 := Tryz.zeroValue246
  t173 := Tryz.underlying249
  a173 := Tryz.isAgg249
  z173 := Tryz.sizeOf249
  v173 := Tryz.zeroValue249
  t175 := Tryz.underlying271
  a175 := Tryz.isAgg271
  z175 := Tryz.sizeOf271
  v175 := Tryz.zeroValue271
  t210 := Tryz.underlying288
  a210 := Tryz.isAgg288
  z210 := Tryz.sizeOf288
  v210 := Tryz.zeroValue288
  t212 := Tryz.underlying278
  a212 := Tryz.isAgg278
  z212 := Tryz.sizeOf278
  v212 := Tryz.zeroValue278
  t213 := Tryz.underlying280
  a213 := Tryz.isAgg280
  z213 := Tryz.sizeOf280
  t232 := Tryz.underlying303
  a232 := Tryz.isAgg303
  z232 := Tryz.sizeOf303
  v232 := Tryz.zeroValue303
  t233 := Tryz.underlying304
  a233 := Tryz.isAgg304
  z233 := Tryz.sizeOf304
  v233 := Tryz.zeroValue304
  g15 := by kernel_rfl
  g16 := by kernel_rfl
  g17 := by kernel_rfl
  g18 := by kernel_rfl
  g19 := by kernel_rfl
  t80 := Tryz.underlying82
  a80 := Tryz.isAgg82
  z80 := Tryz.sizeOf82
  v80 := Tryz.zeroValue82
  i0 := by kernel_rfl
  i2 := by kernel_rfl
  i3 := by kernel_rfl
  i4 := by kernel_rfl
  i5 := by kernel_rfl
  i9 := by kernel_rfl
  i20 := by kernel_rfl
  i21 := by kernel_rfl
  i37 := by kernel_rfl
  i46 := by kernel_rfl
  i51 := by kernel_rfl
  i53 := by kernel_rfl
  i75 := by kernel_rfl
  i80 := by kernel_rfl
  i85 := by kernel_rfl
  i127 := by kernel_rfl
  i143 := by kernel_rfl
  i145 := by kernel_rfl
  i167 := by kernel_rfl
  i168 := by kernel_rfl
  i171 := by kernel_rfl
  i173 := by kernel_rfl
  i175 := by kernel_rfl
  i210 := by kernel_rfl
  i212 := by kernel_rfl
  i232 := by kernel_rfl
  i233 := by kernel_rfl
  m15 := by kernel_rfl
  m16 := by kernel_rfl
  m17 := by kernel_rfl
  m18 := by kernel_rfl
  m19 := by kernel_rfl
  c0 := by kernel_rfl
  c2 := by kernel_rfl
  c3 := by kernel_rfl
  c4 := by kernel_rfl
  c5 := by kernel_rfl
  c9 := by kernel_rfl
  c20 := by kernel_rfl
  c21 := by kernel_rfl
  c37 := by kernel_rfl
  c46 := by kernel_rfl
  c51 := by kernel_rfl
  c53 := by kernel_rfl
  c75 := by kernel_rfl
  c80 := by kernel_rfl
  c85 := by kernel_rfl
  c127 := by kernel_rfl
  c143 := by kernel_rfl
  c145 := by kernel_rfl
  c167 := by kernel_rfl
  c168 := by kernel_rfl
  c171 := by kernel_rfl
  c173 := by kernel_rfl
  c175 := by kernel_rfl
  c210 := by kernel_rfl
  c212 := by kernel_rfl
  c213 := by kernel_rfl
  c232 := by kernel_rfl
  c233 := by kernel_rfl }
def Tryz.lays146_ren : Go.Shelf.Ren := ⟨fun | 146 => 267 | 221 => 274 | 268 => 278 | 138 => 279 | 143 => 280 | 195 => 286 | 197 => 276 | 218 => 287 | 219 => 288 | 260 => 281 | 217 => 289 | 225 => 285 | 224 => 284 | 267 => 290 | 266 => 291 | 314 => 292 | n => n, fun | 9 => 9 | 31 => 37 | 3 => 3 | 4 => 4 | 0 => 0 | 105 => 305 | 21 => 21 | 5 => 5 | 46 => 177 | 119 => 315 | 139 => 318 | 138 => 317 | 146 => 319 | 51 => 279 | n => n, fun | 1 => 1 | 3 => 6 | 4 => 7 | n => n⟩
theorem Tryz.lays146 : Go.Proofs.Lays.n146 Tryz.prog Tryz.lays146_ren := {
  mixed := by kernel_rfl
  f138 := Tryz.func279.trans (congrArg some (by kernel_rfl))
  f143 := Tryz.func280.trans (congrArg some (by kernel_rfl))
  f146 := Tryz.func267.trans (congrArg some (by kernel_rfl))
  f195 := Tryz.func286.trans (congrArg some (by kernel_rfl))
  f197 := Tryz.func276.trans (congrArg some (by kernel_rfl))
  f217 := Tryz.func289.trans (congrArg some (by kernel_rfl))
  f218 := Tryz.func287.trans (congrArg some (by kernel_rfl))
  f219 := Tryz.func288.trans (congrArg some (by kernel_rfl))
  f221 := Tryz.func274.trans (congrArg some (by kernel_rfl))
  f224 := Tryz.func284.trans (congrArg some (by kernel_rfl))
  f225 := Tryz.func285.trans (congrArg some (by kernel_rfl))
  f260 := Tryz.func281.trans (congrArg some (by kernel_rfl))
  f266 := Tryz.func291.trans (congrArg some (by kernel_rfl))
  f267 := Tryz.func290.trans (congrArg some (by kernel_rfl))
  f268 := Tryz.func278.trans (congrArg some (by kernel_rfl))
  f314 := Tryz.func292.trans (congrArg some (by kernel_rfl))
  t0 := Tryz.underlying0
  a0 := Tryz.isAgg0
  z0 := Tryz.sizeOf0
  v0 := Tryz.zeroValue0
  t3 := Tryz.underlying3
  a3 := Tryz.isAgg3
  z3 := Tryz.sizeOf3
  v3 := Tryz.zeroValue3
  t4 := Tryz.underlying4
  a4 := Tryz.isAgg4
  z4 := Tryz.sizeOf4
  v4 := Tryz.zeroValue4
  t5 := Tryz.underlying5
  a5 := Tryz.isAgg5
  z5 := Tryz.sizeOf5
  v5 := Tryz.zeroValue5
  t9 := Tryz.underlying9
  a9 := Tryz.isAgg9
  z9 := Tryz.sizeOf9
  v9 := Tryz.zeroValue9
  t21 := Tryz.underlying21
  a21 := Tryz.isAgg21
  z21 := Tryz.sizeOf21
  v21 := Tryz.zeroValue21
  t31 := Tryz.underlying37
  a31 := Tryz.isAgg37
  z31 := Tryz.sizeOf37
  v31 := Tryz.zeroValue37
  t46 := Tryz.underlying177
  a46 := Tryz.isAgg177
  z46 := Tryz.sizeOf177
  v46 := Tryz.zeroValue177
  t51 := Tryz.underlying279
  a51 := Tryz.isAgg279
  z51 := Tryz.sizeOf279
  v51 := Tryz.zeroValue279
  t105 := Tryz.underlying305
  a105 := Tryz.isAgg305
  z105 := Tryz.sizeOf305
  v105 := Tryz.zeroValue305
  t119 := Tryz.underlying315
  a119 := Tryz.isAgg315
  z119 := Tryz.sizeOf315
  t138 := Tryz.underlying317
  a138 := Tryz.isAgg317
  z138 := Tryz.sizeOf317
  v138 := Tryz.zeroValue317
  t139 := Tryz.underlying318
  a139 := Tryz.isAgg318
  z139 := Tryz.sizeOf318
  v139 := Tryz.zeroValue318
  t146 := Tryz.underlying319
  a146 := Tryz.isAgg319
  z146 := Tryz.sizeOf319
  v146 := Tryz.zeroValue319
  g1 := by kernel_rfl
  g3 := by kernel_rfl
  g4 := by kernel_rfl }
namespace TM
theorem strings_Join_ok : RuleOk Tryz.prog 87 join_r := joinS_ok Tryz.lays156 Tryz.Builder_Extra_156 rfl ⟨_, Tryz.func87, by kernel_rfl, by kernel_rfl⟩
theorem pow10_tab (w : World) (I : Nat → Nat → Prop) (h : Lt w I) : Lib.TabIs Tryz.prog w "internal/strconv.uint64pow10" .u64 Lib.pow10Tab := by
  obtain ⟨⟨cs, ty, fr, h1, h2⟩, _⟩ := h.g _ (List.Mem.head _)
  dsimp only at h1 h2
  subst h2
  unfold Lib.TabIs World.var?
  rw [show Tryz.prog.globalNamed "internal/strconv.uint64pow10" = some 0 from by kernel_rfl]
  simp only [Option.bind_some, h1]
theorem strconv_FormatInt_ok : RuleOk Tryz.prog 132 fmt_r := fmt_ok Tryz.laysM173 rfl ⟨_, Tryz.func132, by kernel_rfl, by kernel_rfl⟩ pow10_tab

set_option maxHeartbeats 1000000 in
set_option maxRecDepth 1000000 in
theorem dec_walk (n : Int) (h0 : -9223372036854775808 ≤ n) (h1 : n ≤ 9223372036854775807) (w : World) (ht : Lib.TabIs Tryz.prog w "internal/strconv.uint64pow10" .u64 Lib.pow10Tab) :
    Calls Tryz.prog 86 #[.int .i64 n] w fun e w' => e = .returned (.string ⟨(Lib.itoa n).toArray⟩) ∧ RowKit.Below w.heap.size w w' := by
  have cF : Calls Tryz.prog 132 #[.int .i64 n, .int .i64 10] w _ := Any.strconv_FormatInt_10 Tryz.laysM173 n h0 h1 w ht
  go_enter Tryz.func86, Tryz.ntmps86
  go_wp2_with (go_at_call 132; refine cF.mono ?_; rintro e w' ⟨rfl, k, os, rfl⟩)
  go_ret
  exact ⟨rfl, below_grow w k os⟩
theorem tab_below {w w' : World} {zs : List Int} (h : Lib.TabIs Tryz.prog w "internal/strconv.uint64pow10" .u64 zs) (hb : RowKit.Below w.heap.size w w') : Lib.TabIs Tryz.prog w' "internal/strconv.uint64pow10" .u64 zs := by
  unfold Lib.TabIs World.var? at h ⊢
  rw [show Tryz.prog.globalNamed "internal/strconv.uint64pow10" = some 0 from by kernel_rfl, Option.bind_some] at h ⊢
  have hlt : 0 < w.heap.size := by
    rcases Nat.lt_or_ge 0 w.heap.size with h' | h'
    · exact h'
    · simp [Array.getElem?_eq_none h'] at h
  rw [hb.block _ hlt]; exact h
set_option maxHeartbeats 1000000 in
set_option maxRecDepth 1000000 in
theorem rdec_walk (s : ByteArray) (n : Int) (b : Bool) (w : World) (I : Nat → Nat → Prop) (hI : Lt w I) (h : rdecS s.data.toList = some (n, b)) :
    Calls Tryz.prog 128 #[.string s] w fun e w' => e = .returned (.tuple #[.int .i64 n, .bool b]) ∧ RowKit.Below w.heap.size w w' := by
  unfold rdecS at h
  split at h
  · rename_i hs
    have hsz : s.size ≤ 140737488355328 := hs
    have ht := pow10_tab w I hI
    have gm1 : (2, ErrC) ∈ gblocks := List.Mem.tail _ (List.Mem.head _)
    have gm2 : (3, ErrC) ∈ gblocks := List.Mem.tail _ (List.Mem.tail _ (List.Mem.head _))
    obtain ⟨t1, x1, c1⟩ := err_cell hI gm1
    obtain ⟨t2, x2, c2⟩ := err_cell hI gm2
    cases hp : Lib.parseIntB 64 s.data.toList with
    | ok v =>
      rw [hp] at h
      simp only [Option.some.injEq, Prod.mk.injEq] at h
      obtain ⟨rfl, rfl⟩ := h
      have hv := Lib.parseIntB_bounds hp
      have cP : Calls Tryz.prog 175 #[.string s, .int .i64 10, .int .i64 64] w _ := Any.strconv_ParseInt_10_at64_ok Tryz.laysC174 s (by omega) v hp w
      go_enter Tryz.func128, Tryz.ntmps128
      go_wp2_with (go_at_call 175; refine cP.mono ?_; rintro e W1 ⟨rfl, hW⟩)
      have hb1 : RowKit.Below w.heap.size w W1 := by
        rcases hW with rfl | ⟨t, rfl⟩
        · exact RowKit.Below.refl _ _
        · exact Lib.bytesWorld_below _ _ _
      clear hW
      have cD := dec_walk v (by have := hv.1; simp at this; omega) (by have := hv.2; simp at this; omega) W1 (tab_below ht hb1)
      go_wp2_with (go_at_call 86; refine cD.mono ?_; rintro e W2 ⟨rfl, hb2⟩)
      go_ret2
      refine ⟨?_, hb1.trans (hb2.mono hb1.size)⟩
      rw [ByteArray.toList_eq]
      by_cases hq : Lib.itoa v = s.data.toList <;> simp [hq]
    | «syntax» =>
      rw [hp] at h
      simp only [Option.some.injEq, Prod.mk.injEq] at h
      obtain ⟨rfl, rfl⟩ := h
      have cP : Calls Tryz.prog 175 #[.string s, .int .i64 10, .int .i64 64] w _ := Any.strconv_ParseInt_10_at64_syntax Tryz.laysC174 s (by omega) hp _ w c1 (.inr ⟨_, _, rfl⟩)
      go_enter Tryz.func128, Tryz.ntmps128
      go_wp2_with (go_at_call 175; refine cP.mono ?_; rintro e W1 ⟨N, rfl, hN, hW, hb⟩)
      go_ret2
      exact ⟨rfl, hb⟩
    | range =>
      rw [hp] at h
      simp only [Option.some.injEq, Prod.mk.injEq] at h
      obtain ⟨rfl, rfl⟩ := h
      have cP : Calls Tryz.prog 175 #[.string s, .int .i64 10, .int .i64 64] w _ := Any.strconv_ParseInt_10_at64_range Tryz.laysC174 s (by omega) hp _ w c2 (.inr ⟨_, _, rfl⟩)
      generalize Lib.intSat 64 s.data.toList = sat at cP ⊢
      go_enter Tryz.func128, Tryz.ntmps128
      go_wp2_with (go_at_call 175; refine cP.mono ?_; rintro e W1 ⟨N, rfl, hN, hW, hb⟩)
      go_ret2
      exact ⟨rfl, hb⟩
  · cases h
theorem impl_readDecimal_ok : RuleOk Tryz.prog 128 rdec_r := rdec_of ⟨_, Tryz.func128, by kernel_rfl, by kernel_rfl⟩ rdec_walk
theorem strings_Split_ok : RuleOk Tryz.prog 267 split_r := split_ok Tryz.lays146 (by kernel_rfl) rfl ⟨_, Tryz.func267, by kernel_rfl, by kernel_rfl⟩ fun w I h => int_cell h (List.Mem.tail _ (List.Mem.tail _ (List.Mem.tail _ (List.Mem.head _))))
end TM
end Go.Proofs
