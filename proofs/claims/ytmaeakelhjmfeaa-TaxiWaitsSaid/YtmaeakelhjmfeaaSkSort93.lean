/- slices.SortFunc at 93: the shelf's contract lies here. -/
import Derived.Test.YtmaeakelhjmfeaaSkSortM
import Derived.Test.YtmaeakelhjmfeaaProg
set_option linter.unusedVariables false
set_option linter.unusedSimpArgs false
namespace Go.Proofs.Ytmaeakelhjmfeaa.Sort93
open Go Go.Shelf Go.RowKit Go.Proofs Go.Proofs.Ytmaeakelhjmfeaa.Sk

def laid_ren : Ren := ⟨fun | 6 => 93 | 15 => 126 | 14 => 125 | 28 => 146 | 29 => 147 | 20 => 138 | 21 => 139 | 22 => 140 | 23 => 141 | 24 => 142 | 25 => 143 | 26 => 144 | 27 => 145 | 46 => 159 | 47 => 160 | 48 => 161 | 49 => 162 | 50 => 163 | 57 => 175 | n => n, fun | 22 => 68 | 24 => 76 | 25 => 141 | 3 => 3 | 39 => 175 | 0 => 0 | 53 => 191 | 55 => 193 | 4 => 4 | 46 => 184 | 45 => 183 | 50 => 188 | 5 => 5 | 9 => 9 | 66 => 201 | 70 => 205 | 76 => 214 | 77 => 80 | n => n, fun | n => n⟩
theorem laid : SlLaysF0.n6 Try.prog laid_ren where
  mixed := by kernel_rfl
  f6 := ⟨"slices.SortFunc[[]skyway/api.TaxiMove,skyway/api.TaxiMove]", by decide, Try.func93.trans (congrArg some (by kernel_rfl))⟩
  f14 := ⟨"slices.pdqsortCmpFunc[skyway/api.TaxiMove]", by decide, Try.func125.trans (congrArg some (by kernel_rfl))⟩
  f15 := Try.func126.trans (congrArg some (by kernel_rfl))
  f20 := ⟨"slices.insertionSortCmpFunc[skyway/api.TaxiMove]", by decide, Try.func138.trans (congrArg some (by kernel_rfl))⟩
  f21 := ⟨"slices.heapSortCmpFunc[skyway/api.TaxiMove]", by decide, Try.func139.trans (congrArg some (by kernel_rfl))⟩
  f22 := ⟨"slices.breakPatternsCmpFunc[skyway/api.TaxiMove]", by decide, Try.func140.trans (congrArg some (by kernel_rfl))⟩
  f23 := ⟨"slices.choosePivotCmpFunc[skyway/api.TaxiMove]", by decide, Try.func141.trans (congrArg some (by kernel_rfl))⟩
  f24 := ⟨"slices.reverseRangeCmpFunc[skyway/api.TaxiMove]", by decide, Try.func142.trans (congrArg some (by kernel_rfl))⟩
  f25 := ⟨"slices.partialInsertionSortCmpFunc[skyway/api.TaxiMove]", by decide, Try.func143.trans (congrArg some (by kernel_rfl))⟩
  f26 := ⟨"slices.partitionEqualCmpFunc[skyway/api.TaxiMove]", by decide, Try.func144.trans (congrArg some (by kernel_rfl))⟩
  f27 := ⟨"slices.partitionCmpFunc[skyway/api.TaxiMove]", by decide, Try.func145.trans (congrArg some (by kernel_rfl))⟩
  f28 := Try.func146.trans (congrArg some (by kernel_rfl))
  f29 := Try.func147.trans (congrArg some (by kernel_rfl))
  f46 := ⟨"slices.siftDownCmpFunc[skyway/api.TaxiMove]", by decide, Try.func159.trans (congrArg some (by kernel_rfl))⟩
  f47 := Try.func160.trans (congrArg some (by kernel_rfl))
  f48 := Try.func161.trans (congrArg some (by kernel_rfl))
  f49 := ⟨"slices.medianAdjacentCmpFunc[skyway/api.TaxiMove]", by decide, Try.func162.trans (congrArg some (by kernel_rfl))⟩
  f50 := ⟨"slices.medianCmpFunc[skyway/api.TaxiMove]", by decide, Try.func163.trans (congrArg some (by kernel_rfl))⟩
  f57 := ⟨"slices.order2CmpFunc[skyway/api.TaxiMove]", by decide, Try.func175.trans (congrArg some (by kernel_rfl))⟩
  t0 := Try.underlying0
  a0 := Try.isAgg0
  z0 := Try.sizeOf0
  v0 := Try.zeroValue0
  t3 := Try.underlying3
  a3 := Try.isAgg3
  z3 := Try.sizeOf3
  v3 := Try.zeroValue3
  t4 := Try.underlying4
  a4 := Try.isAgg4
  z4 := Try.sizeOf4
  v4 := Try.zeroValue4
  t5 := Try.underlying5
  a5 := Try.isAgg5
  z5 := Try.sizeOf5
  v5 := Try.zeroValue5
  t9 := Try.underlying9
  a9 := Try.isAgg9
  z9 := Try.sizeOf9
  v9 := Try.zeroValue9
  t22 := Try.underlying68
  a22 := Try.isAgg68
  z22 := Try.sizeOf68
  v22 := Try.zeroValue68
  t25 := Try.underlying141
  a25 := Try.isAgg141
  z25 := Try.sizeOf141
  v25 := Try.zeroValue141
  t39 := Try.underlying175
  a39 := Try.isAgg175
  z39 := Try.sizeOf175
  v39 := Try.zeroValue175
  t45 := Try.underlying183
  a45 := Try.isAgg183
  z45 := Try.sizeOf183
  v45 := Try.zeroValue183
  t46 := Try.underlying184
  a46 := Try.isAgg184
  z46 := Try.sizeOf184
  v46 := Try.zeroValue184
  t50 := Try.underlying188
  a50 := Try.isAgg188
  z50 := Try.sizeOf188
  v50 := Try.zeroValue188
  t53 := Try.underlying191
  a53 := Try.isAgg191
  z53 := Try.sizeOf191
  v53 := Try.zeroValue191
  t55 := Try.underlying193
  a55 := Try.isAgg193
  z55 := Try.sizeOf193
  v55 := Try.zeroValue193
  t66 := Try.underlying201
  a66 := Try.isAgg201
  z66 := Try.sizeOf201
  v66 := Try.zeroValue201
  t70 := Try.underlying205
  a70 := Try.isAgg205
  z70 := Try.sizeOf205
  v70 := Try.zeroValue205
  t76 := Try.underlying214
  a76 := Try.isAgg214
  z76 := Try.sizeOf214
  v76 := Try.zeroValue214
  t77 := Try.underlying80
  a77 := Try.isAgg80
  z77 := Try.sizeOf80
  v77 := Try.zeroValue80
theorem sortC : SortC Try.prog 93 (Ty.size (VT.ty (.agg (.pair (.str) (.pair (.int .i64) (.pair (.int .i64) (.int .i64))))))) (argV (.agg (.pair (.str) (.pair (.int .i64) (.pair (.int .i64) (.int .i64)))))) := sortC_K laid 4 Try.isAgg76 Try.sizeOf76
end Go.Proofs.Ytmaeakelhjmfeaa.Sort93
