/-
  THE LAYING of slices.SortFunc at []api.Deed at this program: numbers, and a fact for each; printed by the kit's lay-plain.mjs.
-/
import Derived.Shelf.SlGeneric
import Derived.Shelf.SlLaysF0
import Derived.Ground.SlsfProg
import Derived.Test.YtogagnopkkiniaaGreatDoorProg
namespace Go.Proofs.YtogagnopkkiniaaGreatDoor.gone
open Go.Proofs Go.Shelf
def sortLay_ren : Go.Shelf.Ren := ⟨fun | 6 => 17 | 15 => 36 | 14 => 35 | 28 => 81 | 29 => 82 | 20 => 73 | 21 => 74 | 22 => 75 | 23 => 76 | 24 => 77 | 25 => 78 | 26 => 79 | 27 => 80 | 46 => 146 | 47 => 147 | 48 => 148 | 49 => 149 | 50 => 150 | 57 => 205 | n => n, fun | 22 => 22 | 24 => 42 | 25 => 65 | 3 => 3 | 39 => 112 | 0 => 0 | 53 => 168 | 55 => 170 | 4 => 4 | 46 => 162 | 45 => 161 | 50 => 152 | 5 => 5 | 9 => 9 | 66 => 255 | 70 => 259 | 76 => 337 | 77 => 338 | n => n, fun | n => n⟩
theorem sortLay : Go.Proofs.SlLaysF0.n6 Tryz.prog sortLay_ren := {
  mixed := by kernel_rfl
  f6 := ⟨Tryz.f17.name, by decide, Tryz.func17.trans (congrArg some (by kernel_rfl))⟩
  f14 := ⟨Tryz.f35.name, by decide, Tryz.func35.trans (congrArg some (by kernel_rfl))⟩
  f15 := Tryz.func36.trans (congrArg some (by kernel_rfl))
  f20 := ⟨Tryz.f73.name, by decide, Tryz.func73.trans (congrArg some (by kernel_rfl))⟩
  f21 := ⟨Tryz.f74.name, by decide, Tryz.func74.trans (congrArg some (by kernel_rfl))⟩
  f22 := ⟨Tryz.f75.name, by decide, Tryz.func75.trans (congrArg some (by kernel_rfl))⟩
  f23 := ⟨Tryz.f76.name, by decide, Tryz.func76.trans (congrArg some (by kernel_rfl))⟩
  f24 := ⟨Tryz.f77.name, by decide, Tryz.func77.trans (congrArg some (by kernel_rfl))⟩
  f25 := ⟨Tryz.f78.name, by decide, Tryz.func78.trans (congrArg some (by kernel_rfl))⟩
  f26 := ⟨Tryz.f79.name, by decide, Tryz.func79.trans (congrArg some (by kernel_rfl))⟩
  f27 := ⟨Tryz.f80.name, by decide, Tryz.func80.trans (congrArg some (by kernel_rfl))⟩
  f28 := Tryz.func81.trans (congrArg some (by kernel_rfl))
  f29 := Tryz.func82.trans (congrArg some (by kernel_rfl))
  f46 := ⟨Tryz.f146.name, by decide, Tryz.func146.trans (congrArg some (by kernel_rfl))⟩
  f47 := Tryz.func147.trans (congrArg some (by kernel_rfl))
  f48 := Tryz.func148.trans (congrArg some (by kernel_rfl))
  f49 := ⟨Tryz.f149.name, by decide, Tryz.func149.trans (congrArg some (by kernel_rfl))⟩
  f50 := ⟨Tryz.f150.name, by decide, Tryz.func150.trans (congrArg some (by kernel_rfl))⟩
  f57 := ⟨Tryz.f205.name, by decide, Tryz.func205.trans (congrArg some (by kernel_rfl))⟩
  t0 := Tryz.underlying0
  a0 := Tryz.isAgg0
  z0 := Tryz.sizeOf0
  v0 := Tryz.zeroValue0
  t3 := Tryz.underlying3
  a3 := Tryz.isAgg3
  z3 := Tryz.sizeOf3
  v3 := Tryz.zeroValue3
  t4 := Tryz.underlying4
  a4 := Tryz.isAgg4
  z4 := Tryz.sizeOf4
  v4 := Tryz.zeroValue4
  t5 := Tryz.underlying5
  a5 := Tryz.isAgg5
  z5 := Tryz.sizeOf5
  v5 := Tryz.zeroValue5
  t9 := Tryz.underlying9
  a9 := Tryz.isAgg9
  z9 := Tryz.sizeOf9
  v9 := Tryz.zeroValue9
  t22 := Tryz.underlying22
  a22 := Tryz.isAgg22
  z22 := Tryz.sizeOf22
  v22 := Tryz.zeroValue22
  t25 := Tryz.underlying65
  a25 := Tryz.isAgg65
  z25 := Tryz.sizeOf65
  v25 := Tryz.zeroValue65
  t39 := Tryz.underlying112
  a39 := Tryz.isAgg112
  z39 := Tryz.sizeOf112
  v39 := Tryz.zeroValue112
  t45 := Tryz.underlying161
  a45 := Tryz.isAgg161
  z45 := Tryz.sizeOf161
  v45 := Tryz.zeroValue161
  t46 := Tryz.underlying162
  a46 := Tryz.isAgg162
  z46 := Tryz.sizeOf162
  v46 := Tryz.zeroValue162
  t50 := Tryz.underlying152
  a50 := Tryz.isAgg152
  z50 := Tryz.sizeOf152
  v50 := Tryz.zeroValue152
  t53 := Tryz.underlying168
  a53 := Tryz.isAgg168
  z53 := Tryz.sizeOf168
  v53 := Tryz.zeroValue168
  t55 := Tryz.underlying170
  a55 := Tryz.isAgg170
  z55 := Tryz.sizeOf170
  v55 := Tryz.zeroValue170
  t66 := Tryz.underlying255
  a66 := Tryz.isAgg255
  z66 := Tryz.sizeOf255
  v66 := Tryz.zeroValue255
  t70 := Tryz.underlying259
  a70 := Tryz.isAgg259
  z70 := Tryz.sizeOf259
  v70 := Tryz.zeroValue259
  t76 := Tryz.underlying337
  a76 := Tryz.isAgg337
  z76 := Tryz.sizeOf337
  v76 := Tryz.zeroValue337
  t77 := Tryz.underlying338
  a77 := Tryz.isAgg338
  z77 := Tryz.sizeOf338
  v77 := Tryz.zeroValue338 }
end Go.Proofs.YtogagnopkkiniaaGreatDoor.gone
