/- slices.Sort at 13: the shelf's contract lies here. -/
import Derived.Test.YthkpnlfnplhgnaaDoorSkSortO
import Derived.Test.YthkpnlfnplhgnaaDoorProg
set_option linter.unusedVariables false
set_option linter.unusedSimpArgs false
namespace Go.Proofs.YthkpnlfnplhgnaaDoor.SortO13
open Go Go.Shelf Go.RowKit Go.Proofs Go.Proofs.YthkpnlfnplhgnaaDoor.Sk

def laid_ren : Go.Shelf.Ren := ⟨fun | 189 => 13 | 125 => 29 | 257 => 28 | 128 => 52 | 129 => 53 | 294 => 43 | 295 => 44 | 296 => 45 | 297 => 46 | 298 => 47 | 299 => 48 | 216 => 49 | 300 => 50 | 301 => 51 | 328 => 67 | 329 => 68 | 330 => 69 | 331 => 70 | 332 => 71 | 215 => 72 | 343 => 81 | n => n, fun | 28 => 46 | 3 => 3 | 46 => 63 | 0 => 0 | 51 => 87 | 53 => 89 | 4 => 4 | 183 => 79 | 182 => 78 | 131 => 84 | 5 => 5 | 9 => 9 | 218 => 101 | 222 => 105 | 228 => 114 | 229 => 98 | n => n, fun | n => n⟩
theorem laid : Go.Proofs.Lays.n189 Tryd.prog laid_ren where
  mixed := by kernel_rfl
  f125 := Tryd.func29.trans (congrArg some (by kernel_rfl))
  f128 := Tryd.func52.trans (congrArg some (by kernel_rfl))
  f129 := Tryd.func53.trans (congrArg some (by kernel_rfl))
  f189 := Tryd.func13.trans (congrArg some (by kernel_rfl))
  f215 := Tryd.func72.trans (congrArg some (by kernel_rfl))
  f216 := Tryd.func49.trans (congrArg some (by kernel_rfl))
  f257 := Tryd.func28.trans (congrArg some (by kernel_rfl))
  f294 := Tryd.func43.trans (congrArg some (by kernel_rfl))
  f295 := Tryd.func44.trans (congrArg some (by kernel_rfl))
  f296 := Tryd.func45.trans (congrArg some (by kernel_rfl))
  f297 := Tryd.func46.trans (congrArg some (by kernel_rfl))
  f298 := Tryd.func47.trans (congrArg some (by kernel_rfl))
  f299 := Tryd.func48.trans (congrArg some (by kernel_rfl))
  f300 := Tryd.func50.trans (congrArg some (by kernel_rfl))
  f301 := Tryd.func51.trans (congrArg some (by kernel_rfl))
  f328 := Tryd.func67.trans (congrArg some (by kernel_rfl))
  f329 := Tryd.func68.trans (congrArg some (by kernel_rfl))
  f330 := Tryd.func69.trans (congrArg some (by kernel_rfl))
  f331 := Tryd.func70.trans (congrArg some (by kernel_rfl))
  f332 := Tryd.func71.trans (congrArg some (by kernel_rfl))
  f343 := Tryd.func81.trans (congrArg some (by kernel_rfl))
  t0 := Tryd.underlying0
  a0 := Tryd.isAgg0
  z0 := Tryd.sizeOf0
  v0 := Tryd.zeroValue0
  t3 := Tryd.underlying3
  a3 := Tryd.isAgg3
  z3 := Tryd.sizeOf3
  v3 := Tryd.zeroValue3
  t4 := Tryd.underlying4
  a4 := Tryd.isAgg4
  z4 := Tryd.sizeOf4
  v4 := Tryd.zeroValue4
  t5 := Tryd.underlying5
  a5 := Tryd.isAgg5
  z5 := Tryd.sizeOf5
  v5 := Tryd.zeroValue5
  t9 := Tryd.underlying9
  a9 := Tryd.isAgg9
  z9 := Tryd.sizeOf9
  v9 := Tryd.zeroValue9
  t28 := Tryd.underlying46
  a28 := Tryd.isAgg46
  z28 := Tryd.sizeOf46
  v28 := Tryd.zeroValue46
  t46 := Tryd.underlying63
  a46 := Tryd.isAgg63
  z46 := Tryd.sizeOf63
  v46 := Tryd.zeroValue63
  t51 := Tryd.underlying87
  a51 := Tryd.isAgg87
  z51 := Tryd.sizeOf87
  v51 := Tryd.zeroValue87
  t53 := Tryd.underlying89
  a53 := Tryd.isAgg89
  z53 := Tryd.sizeOf89
  v53 := Tryd.zeroValue89
  t131 := Tryd.underlying84
  a131 := Tryd.isAgg84
  z131 := Tryd.sizeOf84
  v131 := Tryd.zeroValue84
  t182 := Tryd.underlying78
  a182 := Tryd.isAgg78
  z182 := Tryd.sizeOf78
  v182 := Tryd.zeroValue78
  t183 := Tryd.underlying79
  a183 := Tryd.isAgg79
  z183 := Tryd.sizeOf79
  v183 := Tryd.zeroValue79
  t218 := Tryd.underlying101
  a218 := Tryd.isAgg101
  z218 := Tryd.sizeOf101
  v218 := Tryd.zeroValue101
  t222 := Tryd.underlying105
  a222 := Tryd.isAgg105
  z222 := Tryd.sizeOf105
  v222 := Tryd.zeroValue105
  t228 := Tryd.underlying114
  a228 := Tryd.isAgg114
  z228 := Tryd.sizeOf114
  v228 := Tryd.zeroValue114
  t229 := Tryd.underlying98
  a229 := Tryd.isAgg98
  z229 := Tryd.sizeOf98
  v229 := Tryd.zeroValue98
theorem mac : MacOk Tryd.prog 13 (sortOM 3 (.int .i64) sortI) := sortI_sound (sortI_C laid)
end Go.Proofs.YthkpnlfnplhgnaaDoor.SortO13
