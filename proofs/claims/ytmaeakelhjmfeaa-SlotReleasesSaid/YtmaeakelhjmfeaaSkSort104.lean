/- slices.SortFunc at 104: the shelf's contract lies here. -/
import Derived.Test.YtmaeakelhjmfeaaSkSortM
import Derived.Test.YtmaeakelhjmfeaaProg
set_option linter.unusedVariables false
set_option linter.unusedSimpArgs false
namespace Go.Proofs.Ytmaeakelhjmfeaa.Sort104
open Go Go.Shelf Go.RowKit Go.Proofs Go.Proofs.Ytmaeakelhjmfeaa.Sk

def laid_ren : Ren := ⟨fun | 6 => 104 | 15 => 126 | 14 => 129 | 28 => 146 | 29 => 147 | 20 => 148 | 21 => 149 | 22 => 150 | 23 => 151 | 24 => 152 | 25 => 153 | 26 => 154 | 27 => 155 | 46 => 164 | 47 => 160 | 48 => 161 | 49 => 165 | 50 => 166 | 57 => 176 | n => n, fun | 22 => 84 | 24 => 106 | 25 => 152 | 3 => 3 | 39 => 175 | 0 => 0 | 53 => 191 | 55 => 193 | 4 => 4 | 46 => 184 | 45 => 183 | 50 => 188 | 5 => 5 | 9 => 9 | 66 => 201 | 70 => 205 | 76 => 214 | 77 => 80 | n => n, fun | n => n⟩
theorem laid : SlLaysF0.n6 Try.prog laid_ren where
  mixed := by kernel_rfl
  f6 := ⟨"slices.SortFunc[[]skyway/api.SlotDemand,skyway/api.SlotDemand]", by decide, Try.func104.trans (congrArg some (by kernel_rfl))⟩
  f14 := ⟨"slices.pdqsortCmpFunc[skyway/api.SlotDemand]", by decide, Try.func129.trans (congrArg some (by kernel_rfl))⟩
  f15 := Try.func126.trans (congrArg some (by kernel_rfl))
  f20 := ⟨"slices.insertionSortCmpFunc[skyway/api.SlotDemand]", by decide, Try.func148.trans (congrArg some (by kernel_rfl))⟩
  f21 := ⟨"slices.heapSortCmpFunc[skyway/api.SlotDemand]", by decide, Try.func149.trans (congrArg some (by kernel_rfl))⟩
  f22 := ⟨"slices.breakPatternsCmpFunc[skyway/api.SlotDemand]", by decide, Try.func150.trans (congrArg some (by kernel_rfl))⟩
  f23 := ⟨"slices.choosePivotCmpFunc[skyway/api.SlotDemand]", by decide, Try.func151.trans (congrArg some (by kernel_rfl))⟩
  f24 := ⟨"slices.reverseRangeCmpFunc[skyway/api.SlotDemand]", by decide, Try.func152.trans (congrArg some (by kernel_rfl))⟩
  f25 := ⟨"slices.partialInsertionSortCmpFunc[skyway/api.SlotDemand]", by decide, Try.func153.trans (congrArg some (by kernel_rfl))⟩
  f26 := ⟨"slices.partitionEqualCmpFunc[skyway/api.SlotDemand]", by decide, Try.func154.trans (congrArg some (by kernel_rfl))⟩
  f27 := ⟨"slices.partitionCmpFunc[skyway/api.SlotDemand]", by decide, Try.func155.trans (congrArg some (by kernel_rfl))⟩
  f28 := Try.func146.trans (congrArg some (by kernel_rfl))
  f29 := Try.func147.trans (congrArg some (by kernel_rfl))
  f46 := ⟨"slices.siftDownCmpFunc[skyway/api.SlotDemand]", by decide, Try.func164.trans (congrArg some (by kernel_rfl))⟩
  f47 := Try.func160.trans (congrArg some (by kernel_rfl))
  f48 := Try.func161.trans (congrArg some (by kernel_rfl))
  f49 := ⟨"slices.medianAdjacentCmpFunc[skyway/api.SlotDemand]", by decide, Try.func165.trans (congrArg some (by kernel_rfl))⟩
  f50 := ⟨"slices.medianCmpFunc[skyway/api.SlotDemand]", by decide, Try.func166.trans (congrArg some (by kernel_rfl))⟩
  f57 := ⟨"slices.order2CmpFunc[skyway/api.SlotDemand]", by decide, Try.func176.trans (congrArg some (by kernel_rfl))⟩
  t0 := Try.underlying0
  a0 := Try.isAgg0
  z0 := Try.sizeOf0
  v0 := Try.zeroValue0
  t3 := Try.underlying3
  a3 := Try.isAgg3
  z3 := Try.sizeOf3
  v3 := Try.zeroValue3
  t4 := Try.underlying4
  a4 := Try.isAgg4
  z4 := Try.sizeOf4
  v4 := Try.zeroValue4
  t5 := Try.underlying5
  a5 := Try.isAgg5
  z5 := Try.sizeOf5
  v5 := Try.zeroValue5
  t9 := Try.underlying9
  a9 := Try.isAgg9
  z9 := Try.sizeOf9
  v9 := Try.zeroValue9
  t22 := Try.underlying84
  a22 := Try.isAgg84
  z22 := Try.sizeOf84
  v22 := Try.zeroValue84
  t25 := Try.underlying152
  a25 := Try.isAgg152
  z25 := Try.sizeOf152
  v25 := Try.zeroValue152
  t39 := Try.underlying175
  a39 := Try.isAgg175
  z39 := Try.sizeOf175
  v39 := Try.zeroValue175
  t45 := Try.underlying183
  a45 := Try.isAgg183
  z45 := Try.sizeOf183
  v45 := Try.zeroValue183
  t46 := Try.underlying184
  a46 := Try.isAgg184
  z46 := Try.sizeOf184
  v46 := Try.zeroValue184
  t50 := Try.underlying188
  a50 := Try.isAgg188
  z50 := Try.sizeOf188
  v50 := Try.zeroValue188
  t53 := Try.underlying191
  a53 := Try.isAgg191
  z53 := Try.sizeOf191
  v53 := Try.zeroValue191
  t55 := Try.underlying193
  a55 := Try.isAgg193
  z55 := Try.sizeOf193
  v55 := Try.zeroValue193
  t66 := Try.underlying201
  a66 := Try.isAgg201
  z66 := Try.sizeOf201
  v66 := Try.zeroValue201
  t70 := Try.underlying205
  a70 := Try.isAgg205
  z70 := Try.sizeOf205
  v70 := Try.zeroValue205
  t76 := Try.underlying214
  a76 := Try.isAgg214
  z76 := Try.sizeOf214
  v76 := Try.zeroValue214
  t77 := Try.underlying80
  a77 := Try.isAgg80
  z77 := Try.sizeOf80
  v77 := Try.zeroValue80
theorem sortC : SortC Try.prog 104 (Ty.size (VT.ty (.agg (.pair (.str) (.int .i64))))) (argV (.agg (.pair (.str) (.int .i64)))) := sortC_K laid 2 Try.isAgg106 Try.sizeOf106
end Go.Proofs.Ytmaeakelhjmfeaa.Sort104
