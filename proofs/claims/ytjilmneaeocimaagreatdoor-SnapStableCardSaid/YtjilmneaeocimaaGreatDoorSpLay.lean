/-
  THE LAYING of 'slices.Sort' of numbers at this program: numbers, and a fact for each; printed by the kit's lay-plain.mjs.
-/
import Derived.Shelf.Sort.Plain
import Derived.Test.YtjilmneaeocimaaGreatDoorProg
namespace Go.Proofs.YtjilmneaeocimaaGreatDoor.snap
open Go.Proofs Go.Shelf
def sortLay_ren : Go.Shelf.Ren := ⟨fun | 189 => 45 | 125 => 72 | 257 => 71 | 128 => 119 | 129 => 120 | 294 => 110 | 295 => 111 | 296 => 112 | 297 => 113 | 298 => 114 | 299 => 115 | 216 => 116 | 300 => 117 | 301 => 118 | 328 => 159 | 329 => 160 | 330 => 161 | 331 => 162 | 332 => 163 | 215 => 164 | 343 => 211 | n => n, fun | 28 => 104 | 3 => 3 | 46 => 156 | 0 => 0 | 51 => 221 | 53 => 148 | 4 => 4 | 183 => 214 | 182 => 213 | 131 => 218 | 5 => 5 | 9 => 9 | 218 => 274 | 222 => 256 | 228 => 319 | 229 => 320 | n => n, fun | n => n⟩
theorem sortLay : Go.Proofs.Lays.n189 Tryz.prog sortLay_ren := {
  mixed := by kernel_rfl
  f125 := Tryz.func72.trans (congrArg some (by kernel_rfl))
  f128 := Tryz.func119.trans (congrArg some (by kernel_rfl))
  f129 := Tryz.func120.trans (congrArg some (by kernel_rfl))
  f189 := Tryz.func45.trans (congrArg some (by kernel_rfl))
  f215 := Tryz.func164.trans (congrArg some (by kernel_rfl))
  f216 := Tryz.func116.trans (congrArg some (by kernel_rfl))
  f257 := Tryz.func71.trans (congrArg some (by kernel_rfl))
  f294 := Tryz.func110.trans (congrArg some (by kernel_rfl))
  f295 := Tryz.func111.trans (congrArg some (by kernel_rfl))
  f296 := Tryz.func112.trans (congrArg some (by kernel_rfl))
  f297 := Tryz.func113.trans (congrArg some (by kernel_rfl))
  f298 := Tryz.func114.trans (congrArg some (by kernel_rfl))
  f299 := Tryz.func115.trans (congrArg some (by kernel_rfl))
  f300 := Tryz.func117.trans (congrArg some (by kernel_rfl))
  f301 := Tryz.func118.trans (congrArg some (by kernel_rfl))
  f328 := Tryz.func159.trans (congrArg some (by kernel_rfl))
  f329 := Tryz.func160.trans (congrArg some (by kernel_rfl))
  f330 := Tryz.func161.trans (congrArg some (by kernel_rfl))
  f331 := Tryz.func162.trans (congrArg some (by kernel_rfl))
  f332 := Tryz.func163.trans (congrArg some (by kernel_rfl))
  f343 := Tryz.func211.trans (congrArg some (by kernel_rfl))
  t0 := Tryz.underlying0
  a0 := Tryz.isAgg0
  z0 := Tryz.sizeOf0
  v0 := Tryz.zeroValue0
  t3 := Tryz.underlying3
  a3 := Tryz.isAgg3
  z3 := Tryz.sizeOf3
  v3 := Tryz.zeroValue3
  t4 := Tryz.underlying4
  a4 := Tryz.isAgg4
  z4 := Tryz.sizeOf4
  v4 := Tryz.zeroValue4
  t5 := Tryz.underlying5
  a5 := Tryz.isAgg5
  z5 := Tryz.sizeOf5
  v5 := Tryz.zeroValue5
  t9 := Tryz.underlying9
  a9 := Tryz.isAgg9
  z9 := Tryz.sizeOf9
  v9 := Tryz.zeroValue9
  t28 := Tryz.underlying104
  a28 := Tryz.isAgg104
  z28 := Tryz.sizeOf104
  v28 := Tryz.zeroValue104
  t46 := Tryz.underlying156
  a46 := Tryz.isAgg156
  z46 := Tryz.sizeOf156
  v46 := Tryz.zeroValue156
  t51 := Tryz.underlying221
  a51 := Tryz.isAgg221
  z51 := Tryz.sizeOf221
  v51 := Tryz.zeroValue221
  t53 := Tryz.underlying148
  a53 := Tryz.isAgg148
  z53 := Tryz.sizeOf148
  v53 := Tryz.zeroValue148
  t131 := Tryz.underlying218
  a131 := Tryz.isAgg218
  z131 := Tryz.sizeOf218
  v131 := Tryz.zeroValue218
  t182 := Tryz.underlying213
  a182 := Tryz.isAgg213
  z182 := Tryz.sizeOf213
  v182 := Tryz.zeroValue213
  t183 := Tryz.underlying214
  a183 := Tryz.isAgg214
  z183 := Tryz.sizeOf214
  v183 := Tryz.zeroValue214
  t218 := Tryz.underlying274
  a218 := Tryz.isAgg274
  z218 := Tryz.sizeOf274
  v218 := Tryz.zeroValue274
  t222 := Tryz.underlying256
  a222 := Tryz.isAgg256
  z222 := Tryz.sizeOf256
  v222 := Tryz.zeroValue256
  t228 := Tryz.underlying319
  a228 := Tryz.isAgg319
  z228 := Tryz.sizeOf319
  v228 := Tryz.zeroValue319
  t229 := Tryz.underlying320
  a229 := Tryz.isAgg320
  z229 := Tryz.sizeOf320
  v229 := Tryz.zeroValue320 }
end Go.Proofs.YtjilmneaeocimaaGreatDoor.snap
