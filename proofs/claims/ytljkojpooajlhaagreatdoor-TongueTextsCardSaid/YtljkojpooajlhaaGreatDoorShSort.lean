/- The library's contracts of slices.Sort and slices.Compact at numbers, laid at the program (by the shelf's plain mode, numbers by name). -/
import Derived.Shelf.Sort.Plain
import Derived.Shelf.Slices.CompactI
import Derived.Shelf.Slices.In.SortNone
import Derived.Test.YtljkojpooajlhaaGreatDoorWalkA
namespace Go.Proofs.YtljkojpooajlhaaGreatDoor
open Go Go.RowKit Go.Shelf

def sh189_ren : Go.Shelf.Ren := ⟨fun | 189 => 37 | 125 => 64 | 257 => 63 | 128 => 91 | 129 => 92 | 294 => 82 | 295 => 83 | 296 => 84 | 297 => 85 | 298 => 86 | 299 => 87 | 216 => 88 | 300 => 89 | 301 => 90 | 328 => 106 | 329 => 107 | 330 => 108 | 331 => 109 | 332 => 110 | 215 => 111 | 343 => 118 | n => n, fun | 28 => 31 | 3 => 3 | 46 => 97 | 0 => 0 | 51 => 124 | 53 => 108 | 4 => 4 | 183 => 117 | 182 => 116 | 131 => 52 | 5 => 5 | 9 => 9 | 218 => 146 | 222 => 150 | 228 => 157 | 229 => 82 | n => n, fun n => n⟩
theorem sh189 : Go.Proofs.Lays.n189 Tryz.prog sh189_ren := {
  mixed := by kernel_rfl
  f125 := Tryz.func64.trans (congrArg some (by kernel_rfl))
  f128 := Tryz.func91.trans (congrArg some (by kernel_rfl))
  f129 := Tryz.func92.trans (congrArg some (by kernel_rfl))
  f189 := Tryz.func37.trans (congrArg some (by kernel_rfl))
  f215 := Tryz.func111.trans (congrArg some (by kernel_rfl))
  f216 := Tryz.func88.trans (congrArg some (by kernel_rfl))
  f257 := Tryz.func63.trans (congrArg some (by kernel_rfl))
  f294 := Tryz.func82.trans (congrArg some (by kernel_rfl))
  f295 := Tryz.func83.trans (congrArg some (by kernel_rfl))
  f296 := Tryz.func84.trans (congrArg some (by kernel_rfl))
  f297 := Tryz.func85.trans (congrArg some (by kernel_rfl))
  f298 := Tryz.func86.trans (congrArg some (by kernel_rfl))
  f299 := Tryz.func87.trans (congrArg some (by kernel_rfl))
  f300 := Tryz.func89.trans (congrArg some (by kernel_rfl))
  f301 := Tryz.func90.trans (congrArg some (by kernel_rfl))
  f328 := Tryz.func106.trans (congrArg some (by kernel_rfl))
  f329 := Tryz.func107.trans (congrArg some (by kernel_rfl))
  f330 := Tryz.func108.trans (congrArg some (by kernel_rfl))
  f331 := Tryz.func109.trans (congrArg some (by kernel_rfl))
  f332 := Tryz.func110.trans (congrArg some (by kernel_rfl))
  f343 := Tryz.func118.trans (congrArg some (by kernel_rfl))
  t0 := Tryz.underlying0
  a0 := Tryz.isAgg0
  z0 := Tryz.sizeOf0
  v0 := Tryz.zeroValue0
  t3 := Tryz.underlying3
  a3 := Tryz.isAgg3
  z3 := Tryz.sizeOf3
  v3 := Tryz.zeroValue3
  t4 := Tryz.underlying4
  a4 := Tryz.isAgg4
  z4 := Tryz.sizeOf4
  v4 := Tryz.zeroValue4
  t5 := Tryz.underlying5
  a5 := Tryz.isAgg5
  z5 := Tryz.sizeOf5
  v5 := Tryz.zeroValue5
  t9 := Tryz.underlying9
  a9 := Tryz.isAgg9
  z9 := Tryz.sizeOf9
  v9 := Tryz.zeroValue9
  t28 := Tryz.underlying31
  a28 := Tryz.isAgg31
  z28 := Tryz.sizeOf31
  v28 := Tryz.zeroValue31
  t46 := Tryz.underlying97
  a46 := Tryz.isAgg97
  z46 := Tryz.sizeOf97
  v46 := Tryz.zeroValue97
  t51 := Tryz.underlying124
  a51 := Tryz.isAgg124
  z51 := Tryz.sizeOf124
  v51 := Tryz.zeroValue124
  t53 := Tryz.underlying108
  a53 := Tryz.isAgg108
  z53 := Tryz.sizeOf108
  v53 := Tryz.zeroValue108
  t131 := Tryz.underlying52
  a131 := Tryz.isAgg52
  z131 := Tryz.sizeOf52
  v131 := Tryz.zeroValue52
  t182 := Tryz.underlying116
  a182 := Tryz.isAgg116
  z182 := Tryz.sizeOf116
  v182 := Tryz.zeroValue116
  t183 := Tryz.underlying117
  a183 := Tryz.isAgg117
  z183 := Tryz.sizeOf117
  v183 := Tryz.zeroValue117
  t218 := Tryz.underlying146
  a218 := Tryz.isAgg146
  z218 := Tryz.sizeOf146
  v218 := Tryz.zeroValue146
  t222 := Tryz.underlying150
  a222 := Tryz.isAgg150
  z222 := Tryz.sizeOf150
  v222 := Tryz.zeroValue150
  t228 := Tryz.underlying157
  a228 := Tryz.isAgg157
  z228 := Tryz.sizeOf157
  v228 := Tryz.zeroValue157
  t229 := Tryz.underlying82
  a229 := Tryz.isAgg82
  z229 := Tryz.sizeOf82
  v229 := Tryz.zeroValue82 }
end Go.Proofs.YtljkojpooajlhaaGreatDoor
