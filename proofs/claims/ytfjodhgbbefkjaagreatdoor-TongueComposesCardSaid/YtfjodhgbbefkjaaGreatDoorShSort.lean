/- The library's contracts of slices.Sort and slices.Compact at numbers, laid at the program (by the shelf's plain mode, numbers by name). -/
import Derived.Shelf.Sort.Plain
import Derived.Shelf.Slices.CompactI
import Derived.Shelf.Slices.In.SortNone
import Derived.Test.YtfjodhgbbefkjaaGreatDoorWalkA
namespace Go.Proofs.YtfjodhgbbefkjaaGreatDoor
open Go Go.RowKit Go.Shelf

def sh189_ren : Go.Shelf.Ren := ⟨fun | 189 => 66 | 125 => 111 | 257 => 110 | 128 => 150 | 129 => 151 | 294 => 141 | 295 => 142 | 296 => 143 | 297 => 144 | 298 => 145 | 299 => 146 | 216 => 147 | 300 => 148 | 301 => 149 | 328 => 169 | 329 => 170 | 330 => 171 | 331 => 172 | 332 => 173 | 215 => 123 | 343 => 190 | n => n, fun | 28 => 36 | 3 => 3 | 46 => 131 | 0 => 0 | 51 => 159 | 53 => 161 | 4 => 4 | 183 => 152 | 182 => 151 | 131 => 113 | 5 => 5 | 9 => 9 | 218 => 178 | 222 => 182 | 228 => 201 | 229 => 86 | n => n, fun n => n⟩
theorem sh189 : Go.Proofs.Lays.n189 Tryz.prog sh189_ren := {
  mixed := by kernel_rfl
  f125 := Tryz.func111.trans (congrArg some (by kernel_rfl))
  f128 := Tryz.func150.trans (congrArg some (by kernel_rfl))
  f129 := Tryz.func151.trans (congrArg some (by kernel_rfl))
  f189 := Tryz.func66.trans (congrArg some (by kernel_rfl))
  f215 := Tryz.func123.trans (congrArg some (by kernel_rfl))
  f216 := Tryz.func147.trans (congrArg some (by kernel_rfl))
  f257 := Tryz.func110.trans (congrArg some (by kernel_rfl))
  f294 := Tryz.func141.trans (congrArg some (by kernel_rfl))
  f295 := Tryz.func142.trans (congrArg some (by kernel_rfl))
  f296 := Tryz.func143.trans (congrArg some (by kernel_rfl))
  f297 := Tryz.func144.trans (congrArg some (by kernel_rfl))
  f298 := Tryz.func145.trans (congrArg some (by kernel_rfl))
  f299 := Tryz.func146.trans (congrArg some (by kernel_rfl))
  f300 := Tryz.func148.trans (congrArg some (by kernel_rfl))
  f301 := Tryz.func149.trans (congrArg some (by kernel_rfl))
  f328 := Tryz.func169.trans (congrArg some (by kernel_rfl))
  f329 := Tryz.func170.trans (congrArg some (by kernel_rfl))
  f330 := Tryz.func171.trans (congrArg some (by kernel_rfl))
  f331 := Tryz.func172.trans (congrArg some (by kernel_rfl))
  f332 := Tryz.func173.trans (congrArg some (by kernel_rfl))
  f343 := Tryz.func190.trans (congrArg some (by kernel_rfl))
  t0 := Tryz.underlying0
  a0 := Tryz.isAgg0
  z0 := Tryz.sizeOf0
  v0 := Tryz.zeroValue0
  t3 := Tryz.underlying3
  a3 := Tryz.isAgg3
  z3 := Tryz.sizeOf3
  v3 := Tryz.zeroValue3
  t4 := Tryz.underlying4
  a4 := Tryz.isAgg4
  z4 := Tryz.sizeOf4
  v4 := Tryz.zeroValue4
  t5 := Tryz.underlying5
  a5 := Tryz.isAgg5
  z5 := Tryz.sizeOf5
  v5 := Tryz.zeroValue5
  t9 := Tryz.underlying9
  a9 := Tryz.isAgg9
  z9 := Tryz.sizeOf9
  v9 := Tryz.zeroValue9
  t28 := Tryz.underlying36
  a28 := Tryz.isAgg36
  z28 := Tryz.sizeOf36
  v28 := Tryz.zeroValue36
  t46 := Tryz.underlying131
  a46 := Tryz.isAgg131
  z46 := Tryz.sizeOf131
  v46 := Tryz.zeroValue131
  t51 := Tryz.underlying159
  a51 := Tryz.isAgg159
  z51 := Tryz.sizeOf159
  v51 := Tryz.zeroValue159
  t53 := Tryz.underlying161
  a53 := Tryz.isAgg161
  z53 := Tryz.sizeOf161
  v53 := Tryz.zeroValue161
  t131 := Tryz.underlying113
  a131 := Tryz.isAgg113
  z131 := Tryz.sizeOf113
  v131 := Tryz.zeroValue113
  t182 := Tryz.underlying151
  a182 := Tryz.isAgg151
  z182 := Tryz.sizeOf151
  v182 := Tryz.zeroValue151
  t183 := Tryz.underlying152
  a183 := Tryz.isAgg152
  z183 := Tryz.sizeOf152
  v183 := Tryz.zeroValue152
  t218 := Tryz.underlying178
  a218 := Tryz.isAgg178
  z218 := Tryz.sizeOf178
  v218 := Tryz.zeroValue178
  t222 := Tryz.underlying182
  a222 := Tryz.isAgg182
  z222 := Tryz.sizeOf182
  v222 := Tryz.zeroValue182
  t228 := Tryz.underlying201
  a228 := Tryz.isAgg201
  z228 := Tryz.sizeOf201
  v228 := Tryz.zeroValue201
  t229 := Tryz.underlying86
  a229 := Tryz.isAgg86
  z229 := Tryz.sizeOf86
  v229 := Tryz.zeroValue86 }
def sh20_ren : Go.Shelf.Ren := ⟨fun | 20 => 67 | n => n, fun | 22 => 36 | 3 => 3 | 4 => 4 | 0 => 0 | n => n, fun n => n⟩
theorem sh20 : Go.Proofs.Lays2.n20 Tryz.prog sh20_ren := {
  mixed := by kernel_rfl
  f20 := Tryz.func67.trans (congrArg some (by kernel_rfl))
  t0 := Tryz.underlying0
  a0 := Tryz.isAgg0
  z0 := Tryz.sizeOf0
  v0 := Tryz.zeroValue0
  t3 := Tryz.underlying3
  a3 := Tryz.isAgg3
  z3 := Tryz.sizeOf3
  v3 := Tryz.zeroValue3
  t4 := Tryz.underlying4
  a4 := Tryz.isAgg4
  z4 := Tryz.sizeOf4
  v4 := Tryz.zeroValue4
  t22 := Tryz.underlying36
  a22 := Tryz.isAgg36
  z22 := Tryz.sizeOf36
  v22 := Tryz.zeroValue36
  i3 := by kernel_rfl }
end Go.Proofs.YtfjodhgbbefkjaaGreatDoor
