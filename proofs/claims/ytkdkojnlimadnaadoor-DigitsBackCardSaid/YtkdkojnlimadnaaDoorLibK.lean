/- What is told of the library comes so; a builder. No condition. -/
import Derived.Shelf.Strings.Builder1
import Derived.Shelf.Small.Wraps
import Derived.Shelf.Strconv.Atoi
import Derived.Shelf.LaysM
import Derived.Shelf.Strconv.Itoa3
import Derived.Shelf.Strings.Repeat
import Derived.Test.YtkdkojnlimadnaaDoorProg
import Derived.Test.YtkdkojnlimadnaaDoorLibA
import Derived.Test.YtkdkojnlimadnaaDoorVmW
import Derived.Lib.LaidTab
import Derived.Shelf.Strings.BuilderK
import Derived.WalkKit
import Derived.BigCall
import Derived.LoopTactic
namespace Go.Proofs
open Go.Shelf
def Tryd.lays103_ren : Go.Shelf.Ren := ⟨fun | 103 => 25 | 210 => 44 | 206 => 60 | n => n, fun | 9 => 9 | 4 => 4 | 24 => 49 | 3 => 3 | n => n, fun | n => n⟩
theorem Tryd.lays103 : Lays.n103 Tryd.prog Tryd.lays103_ren := {
  mixed := by kernel_rfl
  f103 := Tryd.func25.trans (congrArg some (by kernel_rfl))
  f206 := Tryd.func60.trans (congrArg some (by kernel_rfl))
  f210 := Tryd.func44.trans (congrArg some (by kernel_rfl))
  t3 := Tryd.underlying3
  a3 := Tryd.isAgg3
  z3 := Tryd.sizeOf3
  v3 := Tryd.zeroValue3
  t4 := Tryd.underlying4
  a4 := Tryd.isAgg4
  z4 := Tryd.sizeOf4
  v4 := Tryd.zeroValue4
  t9 := Tryd.underlying9
  a9 := Tryd.isAgg9
  z9 := Tryd.sizeOf9
  v9 := Tryd.zeroValue9
  t24 := Tryd.underlying49
  a24 := Tryd.isAgg49
  z24 := Tryd.sizeOf49
  v24 := Tryd.zeroValue49 }
def Tryd.lays104_ren : Go.Shelf.Ren := ⟨fun | 104 => 26 | 211 => 45 | 207 => 61 | n => n, fun | 9 => 9 | 4 => 4 | 24 => 49 | 3 => 3 | n => n, fun | n => n⟩
theorem Tryd.lays104 : Lays.n104 Tryd.prog Tryd.lays104_ren := {
  mixed := by kernel_rfl
  f104 := Tryd.func26.trans (congrArg some (by kernel_rfl))
  f207 := Tryd.func61.trans (congrArg some (by kernel_rfl))
  f211 := Tryd.func45.trans (congrArg some (by kernel_rfl))
  t3 := Tryd.underlying3
  a3 := Tryd.isAgg3
  z3 := Tryd.sizeOf3
  v3 := Tryd.zeroValue3
  t4 := Tryd.underlying4
  a4 := Tryd.isAgg4
  z4 := Tryd.sizeOf4
  v4 := Tryd.zeroValue4
  t9 := Tryd.underlying9
  a9 := Tryd.isAgg9
  z9 := Tryd.sizeOf9
  v9 := Tryd.zeroValue9
  t24 := Tryd.underlying49
  a24 := Tryd.isAgg49
  z24 := Tryd.sizeOf49
  v24 := Tryd.zeroValue49 }
def Tryd.lays172_ren : Go.Shelf.Ren := ⟨fun | 172 => 46 | 244 => 62 | 245 => 63 | 247 => 71 | 279 => 72 | 280 => 73 | 281 => 74 | 282 => 75 | 287 => 82 | 316 => 83 | 171 => 36 | 205 => 84 | 321 => 90 | 322 => 91 | 243 => 53 | 246 => 67 | 283 => 77 | 284 => 78 | 285 => 79 | 286 => 80 | 129 => 86 | 317 => 85 | 318 => 87 | 319 => 88 | 320 => 89 | 337 => 92 | 338 => 93 | n => n, fun | 9 => 9 | 3 => 3 | 75 => 66 | 76 => 67 | 4 => 4 | 5 => 5 | 167 => 92 | 37 => 37 | 0 => 0 | 85 => 93 | 2 => 2 | 168 => 95 | 53 => 64 | 175 => 106 | 46 => 78 | 210 => 110 | 127 => 77 | 145 => 121 | 143 => 119 | 21 => 21 | 171 => 100 | 173 => 103 | 212 => 114 | 51 => 46 | 20 => 20 | 213 => 115 | 232 => 123 | 233 => 124 | 80 => 58 | n => n, fun | 15 => 0 | 16 => 1 | 17 => 2 | 18 => 4 | 19 => 5 | n => n⟩
theorem Tryd.lays172 : Lays.n172 Tryd.prog Tryd.lays172_ren := {
  mixed := by kernel_rfl
  f129 := Tryd.func86.trans (congrArg some (by kernel_rfl))
  f171 := Tryd.func36.trans (congrArg some (by kernel_rfl))
  f172 := Tryd.func46.trans (congrArg some (by kernel_rfl))
  f205 := Tryd.func84.trans (congrArg some (by kernel_rfl))
  f243 := Tryd.func53.trans (congrArg some (by kernel_rfl))
  f244 := Tryd.func62.trans (congrArg some (by kernel_rfl))
  f245 := Tryd.func63.trans (congrArg some (by kernel_rfl))
  f246 := Tryd.func67.trans (congrArg some (by kernel_rfl))
  f247 := Tryd.func71.trans (congrArg some (by kernel_rfl))
  f279 := Tryd.func72.trans (congrArg some (by kernel_rfl))
  f280 := Tryd.func73.trans (congrArg some (by kernel_rfl))
  f281 := Tryd.func74.trans (congrArg some (by kernel_rfl))
  f282 := Tryd.func75.trans (congrArg some (by kernel_rfl))
  f283 := Tryd.func77.trans (congrArg some (by kernel_rfl))
  f284 := Tryd.func78.trans (congrArg some (by kernel_rfl))
  f285 := Tryd.func79.trans (congrArg some (by kernel_rfl))
  f286 := Tryd.func80.trans (congrArg some (by kernel_rfl))
  f287 := Tryd.func82.trans (congrArg some (by kernel_rfl))
  f316 := Tryd.func83.trans (congrArg some (by kernel_rfl))
  f317 := Tryd.func85.trans (congrArg some (by kernel_rfl))
  f318 := Tryd.func87.trans (congrArg some (by kernel_rfl))
  f319 := Tryd.func88.trans (congrArg some (by kernel_rfl))
  f320 := Tryd.func89.trans (congrArg some (by kernel_rfl))
  f321 := Tryd.func90.trans (congrArg some (by kernel_rfl))
  f322 := Tryd.func91.trans (congrArg some (by kernel_rfl))
  f337 := Tryd.func92.trans (congrArg some (by kernel_rfl))
  f338 := Tryd.func93.trans (congrArg some (by kernel_rfl))
  t0 := Tryd.underlying0
  a0 := Tryd.isAgg0
  z0 := Tryd.sizeOf0
  v0 := Tryd.zeroValue0
  t2 := Tryd.underlying2
  a2 := Tryd.isAgg2
  z2 := Tryd.sizeOf2
  v2 := Tryd.zeroValue2
  t3 := Tryd.underlying3
  a3 := Tryd.isAgg3
  z3 := Tryd.sizeOf3
  v3 := Tryd.zeroValue3
  t4 := Tryd.underlying4
  a4 := Tryd.isAgg4
  z4 := Tryd.sizeOf4
  v4 := Tryd.zeroValue4
  t5 := Tryd.underlying5
  a5 := Tryd.isAgg5
  z5 := Tryd.sizeOf5
  v5 := Tryd.zeroValue5
  t9 := Tryd.underlying9
  a9 := Tryd.isAgg9
  z9 := Tryd.sizeOf9
  v9 := Tryd.zeroValue9
  t20 := Tryd.underlying20
  a20 := Tryd.isAgg20
  z20 := Tryd.sizeOf20
  v20 := Tryd.zeroValue20
  t21 := Tryd.underlying21
  a21 := Tryd.isAgg21
  z21 := Tryd.sizeOf21
  v21 := Tryd.zeroValue21
  t37 := Tryd.underlying37
  a37 := Tryd.isAgg37
  z37 := Tryd.sizeOf37
  v37 := Tryd.zeroValue37
  t46 := Tryd.underlying78
  a46 := Tryd.isAgg78
  z46 := Tryd.sizeOf78
  v46 := Tryd.zeroValue78
  t51 := Tryd.underlying46
  a51 := Tryd.isAgg46
  z51 := Tryd.sizeOf46
  v51 := Tryd.zeroValue46
  t53 := Tryd.underlying64
  a53 := Tryd.isAgg64
  z53 := Tryd.sizeOf64
  v53 := Tryd.zeroValue64
  t75 := Tryd.underlying66
  a75 := Tryd.isAgg66
  z75 := Tryd.sizeOf66
  v75 := Tryd.zeroValue66
  t76 := Tryd.underlying67
  a76 := Tryd.isAgg67
  z76 := Tryd.sizeOf67
  v76 := Tryd.zeroValue67
  t85 := Tryd.underlying93
  a85 := Tryd.isAgg93
  z85 := Tryd.sizeOf93
  v85 := Tryd.zeroValue93
  t127 := Tryd.underlying77
  a127 := Tryd.isAgg77
  z127 := Tryd.sizeOf77
  v127 := Tryd.zeroValue77
  t143 := Tryd.underlying119
  a143 := Tryd.isAgg119
  z143 := Tryd.sizeOf119
  v143 := Tryd.zeroValue119
  t145 := Tryd.underlying121
  a145 := Tryd.isAgg121
  z145 := Tryd.sizeOf121
  v145 := Tryd.zeroValue121
  t167 := Tryd.underlying92
  a167 := Tryd.isAgg92
  z167 := Tryd.sizeOf92
  v167 := Tryd.zeroValue92
  t168 := Tryd.underlying95
  a168 := Tryd.isAgg95
  z168 := Tryd.sizeOf95
  v168 := Tryd.zeroValue95
  t171 := Tryd.underlying100
  a171 := Tryd.isAgg100
  z171 := Tryd.sizeOf100
  v171 := Tryd.zeroValue100
  t173 := Tryd.underlying103
  a173 := Tryd.isAgg103
  z173 := Tryd.sizeOf103
  v173 := Tryd.zeroValue103
  t175 := Tryd.underlying106
  a175 := Tryd.isAgg106
  z175 := Tryd.sizeOf106
  v175 := Tryd.zeroValue106
  t210 := Tryd.underlying110
  a210 := Tryd.isAgg110
  z210 := Tryd.sizeOf110
  v210 := Tryd.zeroValue110
  t212 := Tryd.underlying114
  a212 := Tryd.isAgg114
  z212 := Tryd.sizeOf114
  v212 := Tryd.zeroValue114
  t213 := Tryd.underlying115
  a213 := Tryd.isAgg115
  z213 := Tryd.sizeOf115
  t232 := Tryd.underlying123
  a232 := Tryd.isAgg123
  z232 := Tryd.sizeOf123
  v232 := Tryd.zeroValue123
  t233 := Tryd.underlying124
  a233 := Tryd.isAgg124
  z233 := Tryd.sizeOf124
  v233 := Tryd.zeroValue124
  g15 := by kernel_rfl
  g16 := by kernel_rfl
  g17 := by kernel_rfl
  g18 := by kernel_rfl
  g19 := by kernel_rfl }
def Tryd.laysM171_ren : Go.Shelf.Ren := ⟨fun | 171 => 36 | 243 => 53 | 246 => 67 | 283 => 77 | 284 => 78 | 285 => 79 | 286 => 80 | 129 => 86 | 317 => 85 | 318 => 87 | 319 => 88 | 320 => 89 | 337 => 92 | 338 => 93 | n => n, fun | 3 => 3 | 9 => 9 | 2 => 2 | 4 => 4 | 171 => 100 | 0 => 0 | 53 => 64 | 37 => 37 | 5 => 5 | 173 => 103 | 212 => 114 | 51 => 46 | 20 => 20 | 213 => 115 | 46 => 78 | 232 => 123 | 233 => 124 | n => n, fun | 17 => 2 | 18 => 4 | 19 => 5 | n => n⟩
theorem Tryd.laysM171 : LaysM.n171 Tryd.prog Tryd.laysM171_ren := {
  mixed := by kernel_rfl
  f129 := Tryd.func86.trans (congrArg some (by kernel_rfl))
  f171 := Tryd.func36.trans (congrArg some (by kernel_rfl))
  f243 := Tryd.func53.trans (congrArg some (by kernel_rfl))
  f246 := Tryd.func67.trans (congrArg some (by kernel_rfl))
  f283 := Tryd.func77.trans (congrArg some (by kernel_rfl))
  f284 := Tryd.func78.trans (congrArg some (by kernel_rfl))
  f285 := Tryd.func79.trans (congrArg some (by kernel_rfl))
  f286 := Tryd.func80.trans (congrArg some (by kernel_rfl))
  f317 := Tryd.func85.trans (congrArg some (by kernel_rfl))
  f318 := Tryd.func87.trans (congrArg some (by kernel_rfl))
  f319 := Tryd.func88.trans (congrArg some (by kernel_rfl))
  f320 := Tryd.func89.trans (congrArg some (by kernel_rfl))
  f337 := Tryd.func92.trans (congrArg some (by kernel_rfl))
  f338 := Tryd.func93.trans (congrArg some (by kernel_rfl))
  t0 := Tryd.underlying0
  a0 := Tryd.isAgg0
  z0 := Tryd.sizeOf0
  v0 := Tryd.zeroValue0
  t2 := Tryd.underlying2
  a2 := Tryd.isAgg2
  z2 := Tryd.sizeOf2
  v2 := Tryd.zeroValue2
  t3 := Tryd.underlying3
  a3 := Tryd.isAgg3
  z3 := Tryd.sizeOf3
  v3 := Tryd.zeroValue3
  t4 := Tryd.underlying4
  a4 := Tryd.isAgg4
  z4 := Tryd.sizeOf4
  v4 := Tryd.zeroValue4
  t5 := Tryd.underlying5
  a5 := Tryd.isAgg5
  z5 := Tryd.sizeOf5
  v5 := Tryd.zeroValue5
  t9 := Tryd.underlying9
  a9 := Tryd.isAgg9
  z9 := Tryd.sizeOf9
  v9 := Tryd.zeroValue9
  t20 := Tryd.underlying20
  a20 := Tryd.isAgg20
  z20 := Tryd.sizeOf20
  v20 := Tryd.zeroValue20
  t37 := Tryd.underlying37
  a37 := Tryd.isAgg37
  z37 := Tryd.sizeOf37
  v37 := Tryd.zeroValue37
  t46 := Tryd.underlying78
  a46 := Tryd.isAgg78
  z46 := Tryd.sizeOf78
  v46 := Tryd.zeroValue78
  t51 := Tryd.underlying46
  a51 := Tryd.isAgg46
  z51 := Tryd.sizeOf46
  v51 := Tryd.zeroValue46
  t53 := Tryd.underlying64
  a53 := Tryd.isAgg64
  z53 := Tryd.sizeOf64
  v53 := Tryd.zeroValue64
  t171 := Tryd.underlying100
  a171 := Tryd.isAgg100
  z171 := Tryd.sizeOf100
  v171 := Tryd.zeroValue100
  t173 := Tryd.underlying103
  a173 := Tryd.isAgg103
  z173 := Tryd.sizeOf103
  v173 := Tryd.zeroValue103
  t212 := Tryd.underlying114
  a212 := Tryd.isAgg114
  z212 := Tryd.sizeOf114
  v212 := Tryd.zeroValue114
  t213 := Tryd.underlying115
  a213 := Tryd.isAgg115
  z213 := Tryd.sizeOf115
  t232 := Tryd.underlying123
  a232 := Tryd.isAgg123
  z232 := Tryd.sizeOf123
  v232 := Tryd.zeroValue123
  t233 := Tryd.underlying124
  a233 := Tryd.isAgg124
  z233 := Tryd.sizeOf124
  v233 := Tryd.zeroValue124
  g17 := by kernel_rfl
  g18 := by kernel_rfl
  g19 := by kernel_rfl
  i0 := by kernel_rfl
  i2 := by kernel_rfl
  i3 := by kernel_rfl
  i4 := by kernel_rfl
  i5 := by kernel_rfl
  i9 := by kernel_rfl
  i20 := by kernel_rfl
  i37 := by kernel_rfl
  i46 := by kernel_rfl
  i51 := by kernel_rfl
  i53 := by kernel_rfl
  i171 := by kernel_rfl
  i173 := by kernel_rfl
  i212 := by kernel_rfl
  i232 := by kernel_rfl
  i233 := by kernel_rfl
  m17 := by kernel_rfl
  m18 := by kernel_rfl
  m19 := by kernel_rfl }
def Tryd.lays171_ren : Go.Shelf.Ren := ⟨fun | 171 => 36 | 243 => 53 | 246 => 67 | 283 => 77 | 284 => 78 | 285 => 79 | 286 => 80 | 129 => 86 | 317 => 85 | 318 => 87 | 319 => 88 | 320 => 89 | 337 => 92 | 338 => 93 | n => n, fun | 3 => 3 | 9 => 9 | 2 => 2 | 4 => 4 | 171 => 100 | 0 => 0 | 53 => 64 | 37 => 37 | 5 => 5 | 173 => 103 | 212 => 114 | 51 => 46 | 20 => 20 | 213 => 115 | 46 => 78 | 232 => 123 | 233 => 124 | n => n, fun | 17 => 2 | 18 => 4 | 19 => 5 | n => n⟩
theorem Tryd.lays171 : Lays.n171 Tryd.prog Tryd.lays171_ren := {
  mixed := by kernel_rfl
  f129 := Tryd.func86.trans (congrArg some (by kernel_rfl))
  f171 := Tryd.func36.trans (congrArg some (by kernel_rfl))
  f243 := Tryd.func53.trans (congrArg some (by kernel_rfl))
  f246 := Tryd.func67.trans (congrArg some (by kernel_rfl))
  f283 := Tryd.func77.trans (congrArg some (by kernel_rfl))
  f284 := Tryd.func78.trans (congrArg some (by kernel_rfl))
  f285 := Tryd.func79.trans (congrArg some (by kernel_rfl))
  f286 := Tryd.func80.trans (congrArg some (by kernel_rfl))
  f317 := Tryd.func85.trans (congrArg some (by kernel_rfl))
  f318 := Tryd.func87.trans (congrArg some (by kernel_rfl))
  f319 := Tryd.func88.trans (congrArg some (by kernel_rfl))
  f320 := Tryd.func89.trans (congrArg some (by kernel_rfl))
  f337 := Tryd.func92.trans (congrArg some (by kernel_rfl))
  f338 := Tryd.func93.trans (congrArg some (by kernel_rfl))
  t0 := Tryd.underlying0
  a0 := Tryd.isAgg0
  z0 := Tryd.sizeOf0
  v0 := Tryd.zeroValue0
  t2 := Tryd.underlying2
  a2 := Tryd.isAgg2
  z2 := Tryd.sizeOf2
  v2 := Tryd.zeroValue2
  t3 := Tryd.underlying3
  a3 := Tryd.isAgg3
  z3 := Tryd.sizeOf3
  v3 := Tryd.zeroValue3
  t4 := Tryd.underlying4
  a4 := Tryd.isAgg4
  z4 := Tryd.sizeOf4
  v4 := Tryd.zeroValue4
  t5 := Tryd.underlying5
  a5 := Tryd.isAgg5
  z5 := Tryd.sizeOf5
  v5 := Tryd.zeroValue5
  t9 := Tryd.underlying9
  a9 := Tryd.isAgg9
  z9 := Tryd.sizeOf9
  v9 := Tryd.zeroValue9
  t20 := Tryd.underlying20
  a20 := Tryd.isAgg20
  z20 := Tryd.sizeOf20
  v20 := Tryd.zeroValue20
  t37 := Tryd.underlying37
  a37 := Tryd.isAgg37
  z37 := Tryd.sizeOf37
  v37 := Tryd.zeroValue37
  t46 := Tryd.underlying78
  a46 := Tryd.isAgg78
  z46 := Tryd.sizeOf78
  v46 := Tryd.zeroValue78
  t51 := Tryd.underlying46
  a51 := Tryd.isAgg46
  z51 := Tryd.sizeOf46
  v51 := Tryd.zeroValue46
  t53 := Tryd.underlying64
  a53 := Tryd.isAgg64
  z53 := Tryd.sizeOf64
  v53 := Tryd.zeroValue64
  t171 := Tryd.underlying100
  a171 := Tryd.isAgg100
  z171 := Tryd.sizeOf100
  v171 := Tryd.zeroValue100
  t173 := Tryd.underlying103
  a173 := Tryd.isAgg103
  z173 := Tryd.sizeOf103
  v173 := Tryd.zeroValue103
  t212 := Tryd.underlying114
  a212 := Tryd.isAgg114
  z212 := Tryd.sizeOf114
  v212 := Tryd.zeroValue114
  t213 := Tryd.underlying115
  a213 := Tryd.isAgg115
  z213 := Tryd.sizeOf115
  t232 := Tryd.underlying123
  a232 := Tryd.isAgg123
  z232 := Tryd.sizeOf123
  v232 := Tryd.zeroValue123
  t233 := Tryd.underlying124
  a233 := Tryd.isAgg124
  z233 := Tryd.sizeOf124
  v233 := Tryd.zeroValue124
  g17 := by kernel_rfl
  g18 := by kernel_rfl
  g19 := by kernel_rfl }
def Tryd.lays105_ren : Go.Shelf.Ren := ⟨fun | 105 => 37 | 212 => 54 | 99 => 55 | 165 => 56 | 166 => 52 | 170 => 57 | 169 => 33 | 263 => 68 | 264 => 69 | 206 => 60 | 240 => 66 | 241 => 70 | 276 => 76 | 277 => 81 | n => n, fun | 9 => 9 | 3 => 3 | 4 => 4 | 20 => 20 | 0 => 0 | 46 => 78 | 109 => 79 | 5 => 5 | 72 => 56 | 76 => 67 | 51 => 46 | 146 => 88 | 53 => 64 | 148 => 90 | 70 => 54 | 37 => 37 | 75 => 66 | 127 => 77 | 164 => 98 | 80 => 58 | n => n, fun | n => n⟩
theorem Tryd.lays105 : Lays.n105 Tryd.prog Tryd.lays105_ren := {
  mixed := by kernel_rfl
  f99 := Tryd.func55.trans (congrArg some (by kernel_rfl))
  f105 := Tryd.func37.trans (congrArg some (by kernel_rfl))
  f165 := Tryd.func56.trans (congrArg some (by kernel_rfl))
  f166 := Tryd.func52.trans (congrArg some (by kernel_rfl))
  f169 := Tryd.func33.trans (congrArg some (by kernel_rfl))
  f170 := Tryd.func57.trans (congrArg some (by kernel_rfl))
  f206 := Tryd.func60.trans (congrArg some (by kernel_rfl))
  f212 := Tryd.func54.trans (congrArg some (by kernel_rfl))
  f240 := Tryd.func66.trans (congrArg some (by kernel_rfl))
  f241 := Tryd.func70.trans (congrArg some (by kernel_rfl))
  f263 := Tryd.func68.trans (congrArg some (by kernel_rfl))
  f264 := Tryd.func69.trans (congrArg some (by kernel_rfl))
  f276 := Tryd.func76.trans (congrArg some (by kernel_rfl))
  f277 := Tryd.func81.trans (congrArg some (by kernel_rfl))
  t0 := Tryd.underlying0
  a0 := Tryd.isAgg0
  z0 := Tryd.sizeOf0
  v0 := Tryd.zeroValue0
  t3 := Tryd.underlying3
  a3 := Tryd.isAgg3
  z3 := Tryd.sizeOf3
  v3 := Tryd.zeroValue3
  t4 := Tryd.underlying4
  a4 := Tryd.isAgg4
  z4 := Tryd.sizeOf4
  v4 := Tryd.zeroValue4
  t5 := Tryd.underlying5
  a5 := Tryd.isAgg5
  z5 := Tryd.sizeOf5
  v5 := Tryd.zeroValue5
  t9 := Tryd.underlying9
  a9 := Tryd.isAgg9
  z9 := Tryd.sizeOf9
  v9 := Tryd.zeroValue9
  t20 := Tryd.underlying20
  a20 := Tryd.isAgg20
  z20 := Tryd.sizeOf20
  v20 := Tryd.zeroValue20
  t37 := Tryd.underlying37
  a37 := Tryd.isAgg37
  z37 := Tryd.sizeOf37
  v37 := Tryd.zeroValue37
  t46 := Tryd.underlying78
  a46 := Tryd.isAgg78
  z46 := Tryd.sizeOf78
  v46 := Tryd.zeroValue78
  t51 := Tryd.underlying46
  a51 := Tryd.isAgg46
  z51 := Tryd.sizeOf46
  v51 := Tryd.zeroValue46
  t53 := Tryd.underlying64
  a53 := Tryd.isAgg64
  z53 := Tryd.sizeOf64
  v53 := Tryd.zeroValue64
  t70 := Tryd.underlying54
  a70 := Tryd.isAgg54
  z70 := Tryd.sizeOf54
  v70 := Tryd.zeroValue54
  t72 := Tryd.underlying56
  a72 := Tryd.isAgg56
  z72 := Tryd.sizeOf56
  v72 := Tryd.zeroValue56
  t75 := Tryd.underlying66
  a75 := Tryd.isAgg66
  z75 := Tryd.sizeOf66
  v75 := Tryd.zeroValue66
  t76 := Tryd.underlying67
  a76 := Tryd.isAgg67
  z76 := Tryd.sizeOf67
  v76 := Tryd.zeroValue67
  t109 := Tryd.underlying79
  a109 := Tryd.isAgg79
  z109 := Tryd.sizeOf79
  v109 := Tryd.zeroValue79
  t127 := Tryd.underlying77
  a127 := Tryd.isAgg77
  z127 := Tryd.sizeOf77
  v127 := Tryd.zeroValue77
  t146 := Tryd.underlying88
  a146 := Tryd.isAgg88
  z146 := Tryd.sizeOf88
  v146 := Tryd.zeroValue88
  t148 := Tryd.underlying90
  a148 := Tryd.isAgg90
  z148 := Tryd.sizeOf90
  v148 := Tryd.zeroValue90
  t164 := Tryd.underlying98
  a164 := Tryd.isAgg98
  z164 := Tryd.sizeOf98
  v164 := Tryd.zeroValue98 }
theorem Tryd.Builder_Extra_105 : Builder.Extra Tryd.prog Tryd.lays105_ren := {
  sizeBuilder := by kernel_rfl
  liesBuilder := by kernel_rfl
  t5 := Tryd.underlying5
  a5 := Tryd.isAgg5
  z5 := Tryd.sizeOf5
  v5 := Tryd.zeroValue5
  infoByte := by kernel_rfl
  cellsByte := by kernel_rfl
  sizeByte := by kernel_rfl
  neB5 := by decide }
end Go.Proofs
namespace Go.Proofs.YtkdkojnlimadnaaDoor
open Go Go.Vm Go.Shelf
set_option linter.unusedVariables false
set_option linter.unusedSectionVars false
/-- What a sound table is told of. -/
def Sound1 [Lay] (g : Vm.Id) (b : List AV → St → R) : Prop := ∀ (args : List AV) (s : St) (r : AV) (s' : St), b args s = .ok r s' → (∃ fn, Tryd.prog.funcs[g.val]? = some fn ∧ fn.body.isNone = false ∧ fn.name ≠ "runtime.NumGoroutine") ∧
  ∀ (E : Env) (w : World) (vals : List Value), Rel s E w → RL E w args vals → Calls Tryd.prog g.val vals.toArray w fun e w' => ∃ E' v, e = .returned v ∧ RV E' w' r v ∧ Went s E w s' E' w'
theorem base_rep [Lay] : SoundCall Tryd.prog fun g a s => g.get (Tab.rep noB : Base) a s := by
  intro g args s r s' h
  simp only [Id.get_rep] at h
  exact R.noConfusion h
theorem base_set [Lay] {g0 : Vm.Id} {b0 : List AV → St → R} {B : Base} (h0 : Sound1 g0 b0) (hB : SoundCall Tryd.prog fun g a s => g.get B a s) : SoundCall Tryd.prog fun g a s => g.get (g0.set b0 B) a s := by
  intro g args s r s' h
  by_cases hg : g = g0
  · subst hg
    simp only [Id.get_set, if_true] at h
    exact h0 args s r s' h
  · simp only [Id.get_set, if_neg hg] at h
    exact hB g args s r s' h
/-- The table of powers of ten. -/
noncomputable def tab10 : List (Nat × (Option Obj → Prop)) := [(2, fun o => ∃ e fr, o = some (.cells (Lib.pow10Tab.map fun z => Value.int .u64 z).toArray e fr))]
noncomputable abbrev L0 : Lay := ⟨tab10, []⟩
theorem global10 : Tryd.prog.globalNamed "internal/strconv.uint64pow10" = some 2 := by kernel_rfl
theorem tab_is {E : Env} {w : World} (h : ∀ k p, (k, p) ∈ tab10 → E.I k ∧ p w.heap[k]?) : Lib.TabIs Tryd.prog w "internal/strconv.uint64pow10" .u64 Lib.pow10Tab := by
  obtain ⟨_, e, fr, h1⟩ := h 2 _ (List.mem_singleton.2 rfl)
  unfold Lib.TabIs World.var?
  rw [global10]
  show (match w.heap[2]? with | some (.cells cs _ _) => some cs | _ => none) = _
  rw [h1]
theorem below_grow (w : World) (k : Nat) (os : Array Obj) : RowKit.Below w.heap.size w (Sort.grow (w.drewN k) os) := by
  refine ⟨?_, ?_, ?_, ?_, fun j hj => ?_⟩
  · simp [Sort.grow, World.drewN]
  · simp [Sort.grow, World.drewN]
  · simp [Sort.grow, World.drewN]
  · simp [Sort.grow, World.drewN]
  · simp [Sort.grow, World.drewN, Array.getElem?_append_left hj]
theorem below_bytes (w : World) (e : TypeId) (s : ByteArray) : RowKit.Below w.heap.size w (Lib.bytesWorld w e s) :=
  ⟨rfl, rfl, rfl, by rw [Lib.bytesWorld_size]; omega, fun j hj => Lib.bytesWorld_at_old w e s j hj⟩
section
variable [Lay]
theorem itoa_sound (htab : ∀ {E : Env} {w : World}, Laid E w → Lib.TabIs Tryd.prog w "internal/strconv.uint64pow10" .u64 Lib.pow10Tab) : Sound1 F.strconv_Itoa Itoa_B := by
  intro args s r s' h
  have ev : F.strconv_Itoa.val = 36 := by kernel_rfl
  unfold Itoa_B at h
  split at h <;> first | (exact R.noConfusion h) | skip
  rename_i n
  split at h <;> first | (exact R.noConfusion h) | skip
  rename_i hn
  obtain ⟨rfl, rfl⟩ := ok_inj h
  refine ⟨⟨Tryd.f36, by rw [ev]; exact Tryd.func36, by kernel_rfl, by decide⟩, fun E w vals rel hrl => ?_⟩
  obtain ⟨u1, vs1, rfl, k1, hrl⟩ := hrl.cons_inv
  have e3 : vs1 = [] := List.eq_nil_of_length_eq_zero hrl.len
  subst e3
  have e4 := rv_int k1
  subst e4
  rw [ev]
  refine Calls.mono (Any.strconv_Itoa Tryd.laysM171 n hn.1 hn.2 w (htab rel.laid)) ?_
  rintro e w' ⟨rfl, k, os, rfl⟩
  exact ⟨E, _, rfl, .str _ _ (by simp), went_below rel (below_grow w k os)⟩
theorem atoi_sound : Sound1 F.strconv_Atoi Atoi_B := by
  intro args s r s' h
  have ev : F.strconv_Atoi.val = 46 := by kernel_rfl
  unfold Atoi_B at h
  split at h <;> first | (exact R.noConfusion h) | skip
  rename_i l
  split at h <;> first | (exact R.noConfusion h) | skip
  rename_i hl
  split at h <;> first | (exact R.noConfusion h) | skip
  rename_i n hn
  obtain ⟨rfl, rfl⟩ := ok_inj h
  refine ⟨⟨Tryd.f46, by rw [ev]; exact Tryd.func46, by kernel_rfl, by decide⟩, fun E w vals rel hrl => ?_⟩
  obtain ⟨u1, vs1, rfl, k1, hrl⟩ := hrl.cons_inv
  have e3 : vs1 = [] := List.eq_nil_of_length_eq_zero hrl.len
  subst e3
  obtain ⟨x, rfl, hx⟩ := rv_str k1
  rw [ev]
  refine Calls.mono (Any.strconv_Atoi Tryd.lays172 x n (by rw [Lib.size_eq, hx]; exact hl) (by rw [hx]; exact hn) w) ?_
  rintro e w' ⟨rfl, t, rfl⟩
  exact ⟨E, _, rfl, .tup _ _ rfl (fun j c u hc hu => by
    match j with
    | 0 => cases hc; cases hu; exact .int _ _
    | 1 => cases hc; cases hu; exact .nili
    | j + 2 => simp at hc), went_below rel (below_bytes w _ t)⟩
theorem repeat_sound : Sound1 F.strings_Repeat Repeat_B := by
  intro args s r s' h
  have ev : F.strings_Repeat.val = 37 := by kernel_rfl
  unfold Repeat_B at h
  split at h <;> first | (exact R.noConfusion h) | skip
  rename_i l c
  split at h <;> first | (exact R.noConfusion h) | skip
  rename_i hc
  obtain ⟨rfl, rfl⟩ := ok_inj h
  refine ⟨⟨Tryd.f37, by rw [ev]; exact Tryd.func37, by kernel_rfl, by decide⟩, fun E w vals rel hrl => ?_⟩
  obtain ⟨u1, vs1, rfl, k1, hrl⟩ := hrl.cons_inv
  obtain ⟨u2, vs2, rfl, k2, hrl⟩ := hrl.cons_inv
  have e3 : vs2 = [] := List.eq_nil_of_length_eq_zero hrl.len
  subst e3
  obtain ⟨x, rfl, hx⟩ := rv_str k1
  have e4 := rv_int k2
  subst e4
  obtain ⟨m, rfl⟩ : ∃ m : Nat, c = m := ⟨c.toNat, by omega⟩
  rw [ev]
  have hs : x.size ≤ 1000 := by rw [Lib.size_eq, hx]; exact hc.2.2
  have hm : m ≤ 1000 := by omega
  refine Calls.mono (Any.strings_Repeat Tryd.lays105 Tryd.Builder_Extra_105 x m w (by omega) (by have := Nat.mul_le_mul hs hm; omega)) ?_
  rintro e w' ⟨rfl, hb⟩
  exact ⟨E, _, rfl, .str _ _ (by simp [hx]), went_below rel hb⟩
theorem rv_pair {E : Env} {w : World} {l : List UInt8} {b : Bool} {x : ByteArray} (hx : x.data.toList = l) : RV E w (.tup [.str l, .bool b]) (.tuple #[.string x, .bool b]) := .tup _ _ rfl (fun j c u hc hu => by
    match j with
    | 0 => cases hc; cases hu; exact .str _ _ hx
    | 1 => cases hc; cases hu; exact .bool _
    | j + 2 => simp at hc)
theorem cutp_sound : Sound1 F.strings_CutPrefix CutPrefix_B := by
  intro args s r s' h
  have ev : F.strings_CutPrefix.val = 25 := by kernel_rfl
  unfold CutPrefix_B at h
  split at h <;> first | (exact R.noConfusion h) | skip
  rename_i l p
  obtain ⟨rfl, rfl⟩ := ok_inj h
  refine ⟨⟨Tryd.f25, by rw [ev]; exact Tryd.func25, by kernel_rfl, by decide⟩, fun E w vals rel hrl => ?_⟩
  obtain ⟨u1, vs1, rfl, k1, hrl⟩ := hrl.cons_inv
  obtain ⟨u2, vs2, rfl, k2, hrl⟩ := hrl.cons_inv
  have e3 : vs2 = [] := List.eq_nil_of_length_eq_zero hrl.len
  subst e3
  obtain ⟨x, rfl, hx⟩ := rv_str k1
  obtain ⟨y, rfl, hy⟩ := rv_str k2
  rw [ev]
  refine Calls.mono (Any.strings_CutPrefix Tryd.lays103 x y w) ?_
  rintro e w' ⟨rfl, rfl⟩
  rw [hx, hy]
  exact ⟨E, _, rfl, rv_pair (by simp), went_below rel (RowKit.Below.refl _ _)⟩
theorem cuts_sound : Sound1 F.strings_CutSuffix CutSuffix_B := by
  intro args s r s' h
  have ev : F.strings_CutSuffix.val = 26 := by kernel_rfl
  unfold CutSuffix_B at h
  split at h <;> first | (exact R.noConfusion h) | skip
  rename_i l p
  split at h <;> first | (exact R.noConfusion h) | skip
  rename_i hl
  obtain ⟨rfl, rfl⟩ := ok_inj h
  refine ⟨⟨Tryd.f26, by rw [ev]; exact Tryd.func26, by kernel_rfl, by decide⟩, fun E w vals rel hrl => ?_⟩
  obtain ⟨u1, vs1, rfl, k1, hrl⟩ := hrl.cons_inv
  obtain ⟨u2, vs2, rfl, k2, hrl⟩ := hrl.cons_inv
  have e3 : vs2 = [] := List.eq_nil_of_length_eq_zero hrl.len
  subst e3
  obtain ⟨x, rfl, hx⟩ := rv_str k1
  obtain ⟨y, rfl, hy⟩ := rv_str k2
  rw [ev]
  refine Calls.mono (Any.strings_CutSuffix Tryd.lays104 x y w (by rw [Lib.size_eq, hx]; exact hl)) ?_
  rintro e w' ⟨rfl, rfl⟩
  rw [hx, hy]
  exact ⟨E, _, rfl, rv_pair (by simp), went_below rel (RowKit.Below.refl _ _)⟩
end
end Go.Proofs.YtkdkojnlimadnaaDoor
namespace Go.Proofs.YtkdkojnlimadnaaDoor
open Go Go.Shelf Go.RowKit
set_option linter.unusedVariables false
theorem lays166 : Lays.n166 Tryd.prog Tryd.lays105_ren := { Tryd.lays105 with }
theorem lays169 : Lays.n169 Tryd.prog Tryd.lays105_ren := { Tryd.lays105 with }
def joined : List ByteArray → List UInt8
  | [] => []
  | x :: r => x.data.toList ++ joined r
theorem write_k (B b : Nat) (l : List UInt8) (s : ByteArray) (w : World) (h : Lib.IsBuilderF 56 5 B b (Lib.byteCells l) w) (hlen : l.length + s.size ≤ 140737488355328) (hBw : B ≤ w.heap.size) :
    Calls Tryd.prog 52 #[.pointer (some ⟨b, 0, none⟩), .string s] w fun e w' => e = .returned (.tuple #[.int .i64 s.size, .nilIface]) ∧ Lib.IsBuilderF 56 5 B b (Lib.byteCells (l ++ s.data.toList)) w' ∧ Below B w w' ∧ Lib.OthersKept 5 (some b) w w' := by
  refine (Any.Builder_WriteString_k lays166 Tryd.Builder_Extra_105 B b (Lib.byteCells l) s w h (by rw [Lib.byteCells_length]; exact hlen) hBw).mono ?_
  rintro e w' ⟨rfl, h1, h2, h3⟩
  refine ⟨rfl, ?_, h2, h3⟩
  rw [Lib.strCells_eq, ← Lib.byteCells_append] at h1
  exact Or.inr h1
theorem joined_take {texts : List ByteArray} {k : Nat} (h : k < texts.length) : joined (texts.take (k + 1)) = joined (texts.take k) ++ texts[k].data.toList := by
  induction texts generalizing k with
  | nil => simp at h
  | cons x r ih =>
    cases k with
    | zero => simp [joined]
    | succ k =>
      simp only [List.length_cons] at h
      rw [List.take_succ_cons, List.take_succ_cons, joined, joined, ih (by omega), List.append_assoc]
      rfl
theorem joined_le (texts : List ByteArray) (k : Nat) : (joined (texts.take k)).length ≤ (joined texts).length := by
  induction texts generalizing k with
  | nil => simp [joined]
  | cons x r ih =>
    cases k with
    | zero => simp [joined]
    | succ k => rw [List.take_succ_cons, joined, joined]; simp; exact ih k
set_option maxHeartbeats 1000000 in
theorem put_k (B b t : Nat) (texts : List ByteArray) (l : List UInt8) (w : World) (fr : Nat × Nat) (hb : Lib.IsBuilderF 56 5 B b (Lib.byteCells l) w) (hB : B ≤ w.heap.size) (ht : w.heap[t]? = some (.cells (texts.map Value.string).toArray 9 fr)) (htb : t ≠ b) (hn : texts.length ≤ 1000)
    (hlen : l.length + (joined texts).length ≤ 1000000) :
    Calls Tryd.prog 32 #[.pointer (some ⟨b, 0, none⟩), .slice (some ⟨t, 0, none⟩) texts.length texts.length] w fun e w' => e = .returned (.tuple #[]) ∧ Lib.IsBuilderF 56 5 B b (Lib.byteCells (l ++ joined texts)) w' ∧ Below B w w' := by
  go_enter Tryd.func32, Tryd.ntmps32
  go_wp2
  go_loopw [8] (fun i wr => ∃ k : Nat, k ≤ texts.length ∧ i = .int .i64 k ∧ Lib.IsBuilderF 56 5 B b (Lib.byteCells (l ++ joined (texts.take k))) wr ∧ Below B w wr ∧ wr.heap[t]? = some (.cells (texts.map Value.string).toArray 9 fr))
    (fun i _ => texts.length - (intOf i).toNat)
  case atStart => exact ⟨0, Nat.zero_le _, rfl, by simpa [joined] using hb, Below.refl _ _, ht⟩
  case round =>
    obtain ⟨k, hk, rfl, hbr, hbel, htr⟩ := hrel
    have hc : ∀ h : k < texts.length, wr.cell? ⟨t, k, none⟩ = some (.string texts[k]) := fun h => by simp [World.cell?, htr, h]
    by_cases hlt : k < texts.length
    · have hc' := hc hlt
      have hj := joined_take hlt
      have hsz : (l ++ joined (texts.take k)).length + texts[k].size ≤ 140737488355328 := by
        have := joined_le texts (k + 1)
        rw [hj] at this
        rw [Lib.size_eq]
        simp only [List.length_append] at this ⊢
        omega
      have hbs := hbel.size
      obtain ⟨x, hx⟩ : ∃ x, x = texts[k] := ⟨_, rfl⟩
      rw [← hx] at hc' hj hsz
      clear hx hc
      go_wp2_with (go_at_call 52; refine (write_k B b _ x _ hbr hsz (by omega)).mono ?_)
      rintro e W1 ⟨rfl, h1, h2, h3⟩
      go_wp2
      go_roundw
      case rel =>
        refine ⟨k + 1, by omega, by go_num, ?_, hbel.trans h2, h3 t _ htr (fun e => htb (Option.some.inj e)) (fun c fz h => by cases h)⟩
        rw [hj, ← List.append_assoc]
        exact h1
      case measure => simp [intOf]; omega
    · have : k = texts.length := by omega
      subst this
      go_wp2
      go_end0
      rw [List.take_length] at hbr
      exact ⟨rfl, hbr, hbel⟩
end Go.Proofs.YtkdkojnlimadnaaDoor
