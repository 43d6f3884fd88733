/- The library's contracts of slices.Sort and slices.Compact at numbers, laid at the program (by the shelf's plain mode, numbers by name). -/
import Derived.Shelf.Sort.Plain
import Derived.Shelf.Slices.CompactI
import Derived.Shelf.Slices.In.SortNone
import Derived.Test.YtljkojpooajlhaaWalkA
namespace Go.Proofs.Ytljkojpooajlhaa
open Go Go.RowKit Go.Shelf

def sh189_ren : Go.Shelf.Ren := ⟨fun | 189 => 37 | 125 => 54 | 257 => 53 | 128 => 71 | 129 => 72 | 294 => 62 | 295 => 63 | 296 => 64 | 297 => 65 | 298 => 66 | 299 => 67 | 216 => 68 | 300 => 69 | 301 => 70 | 328 => 78 | 329 => 79 | 330 => 80 | 331 => 81 | 332 => 82 | 215 => 83 | 343 => 87 | n => n, fun | 28 => 34 | 3 => 3 | 46 => 100 | 0 => 0 | 51 => 119 | 53 => 121 | 4 => 4 | 183 => 112 | 182 => 111 | 131 => 73 | 5 => 5 | 9 => 9 | 218 => 127 | 222 => 131 | 228 => 136 | 229 => 62 | n => n, fun n => n⟩
theorem sh189 : Go.Proofs.Lays.n189 Try.prog sh189_ren := {
  mixed := by kernel_rfl
  f125 := Try.func54.trans (congrArg some (by kernel_rfl))
  f128 := Try.func71.trans (congrArg some (by kernel_rfl))
  f129 := Try.func72.trans (congrArg some (by kernel_rfl))
  f189 := Try.func37.trans (congrArg some (by kernel_rfl))
  f215 := Try.func83.trans (congrArg some (by kernel_rfl))
  f216 := Try.func68.trans (congrArg some (by kernel_rfl))
  f257 := Try.func53.trans (congrArg some (by kernel_rfl))
  f294 := Try.func62.trans (congrArg some (by kernel_rfl))
  f295 := Try.func63.trans (congrArg some (by kernel_rfl))
  f296 := Try.func64.trans (congrArg some (by kernel_rfl))
  f297 := Try.func65.trans (congrArg some (by kernel_rfl))
  f298 := Try.func66.trans (congrArg some (by kernel_rfl))
  f299 := Try.func67.trans (congrArg some (by kernel_rfl))
  f300 := Try.func69.trans (congrArg some (by kernel_rfl))
  f301 := Try.func70.trans (congrArg some (by kernel_rfl))
  f328 := Try.func78.trans (congrArg some (by kernel_rfl))
  f329 := Try.func79.trans (congrArg some (by kernel_rfl))
  f330 := Try.func80.trans (congrArg some (by kernel_rfl))
  f331 := Try.func81.trans (congrArg some (by kernel_rfl))
  f332 := Try.func82.trans (congrArg some (by kernel_rfl))
  f343 := Try.func87.trans (congrArg some (by kernel_rfl))
  t0 := Try.underlying0
  a0 := Try.isAgg0
  z0 := Try.sizeOf0
  v0 := Try.zeroValue0
  t3 := Try.underlying3
  a3 := Try.isAgg3
  z3 := Try.sizeOf3
  v3 := Try.zeroValue3
  t4 := Try.underlying4
  a4 := Try.isAgg4
  z4 := Try.sizeOf4
  v4 := Try.zeroValue4
  t5 := Try.underlying5
  a5 := Try.isAgg5
  z5 := Try.sizeOf5
  v5 := Try.zeroValue5
  t9 := Try.underlying9
  a9 := Try.isAgg9
  z9 := Try.sizeOf9
  v9 := Try.zeroValue9
  t28 := Try.underlying34
  a28 := Try.isAgg34
  z28 := Try.sizeOf34
  v28 := Try.zeroValue34
  t46 := Try.underlying100
  a46 := Try.isAgg100
  z46 := Try.sizeOf100
  v46 := Try.zeroValue100
  t51 := Try.underlying119
  a51 := Try.isAgg119
  z51 := Try.sizeOf119
  v51 := Try.zeroValue119
  t53 := Try.underlying121
  a53 := Try.isAgg121
  z53 := Try.sizeOf121
  v53 := Try.zeroValue121
  t131 := Try.underlying73
  a131 := Try.isAgg73
  z131 := Try.sizeOf73
  v131 := Try.zeroValue73
  t182 := Try.underlying111
  a182 := Try.isAgg111
  z182 := Try.sizeOf111
  v182 := Try.zeroValue111
  t183 := Try.underlying112
  a183 := Try.isAgg112
  z183 := Try.sizeOf112
  v183 := Try.zeroValue112
  t218 := Try.underlying127
  a218 := Try.isAgg127
  z218 := Try.sizeOf127
  v218 := Try.zeroValue127
  t222 := Try.underlying131
  a222 := Try.isAgg131
  z222 := Try.sizeOf131
  v222 := Try.zeroValue131
  t228 := Try.underlying136
  a228 := Try.isAgg136
  z228 := Try.sizeOf136
  v228 := Try.zeroValue136
  t229 := Try.underlying62
  a229 := Try.isAgg62
  z229 := Try.sizeOf62
  v229 := Try.zeroValue62 }
end Go.Proofs.Ytljkojpooajlhaa
