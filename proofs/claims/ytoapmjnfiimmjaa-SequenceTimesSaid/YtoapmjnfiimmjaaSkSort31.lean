/- slices.SortFunc at 31: the shelf's contract lies here. -/
import Derived.Test.YtoapmjnfiimmjaaSkSortM
import Derived.Test.YtoapmjnfiimmjaaProg
set_option linter.unusedVariables false
set_option linter.unusedSimpArgs false
namespace Go.Proofs.Ytoapmjnfiimmjaa.Sort31
open Go Go.Shelf Go.RowKit Go.Proofs Go.Proofs.Ytoapmjnfiimmjaa.Sk

def laid_ren : Go.Shelf.Ren := ⟨fun | 6 => 31 | 15 => 42 | 14 => 41 | 28 => 55 | 29 => 56 | 20 => 47 | 21 => 48 | 22 => 49 | 23 => 50 | 24 => 51 | 25 => 52 | 26 => 53 | 27 => 54 | 46 => 58 | 47 => 59 | 48 => 60 | 49 => 61 | 50 => 62 | 57 => 63 | n => n, fun | 22 => 23 | 24 => 3 | 25 => 65 | 3 => 3 | 39 => 71 | 0 => 0 | 53 => 83 | 55 => 85 | 4 => 4 | 46 => 76 | 45 => 75 | 50 => 80 | 5 => 5 | 9 => 9 | 66 => 86 | 70 => 90 | 76 => 92 | 77 => 93 | n => n, fun | n => n⟩
theorem laid : Go.Proofs.SlLaysF.n6 Try.prog laid_ren where
  mixed := by kernel_rfl
  f6 := ⟨"slices.SortFunc[[]int,int]", by decide, Try.func31.trans (congrArg some (by kernel_rfl))⟩
  f14 := ⟨"slices.pdqsortCmpFunc[int]", by decide, Try.func41.trans (congrArg some (by kernel_rfl))⟩
  f15 := Try.func42.trans (congrArg some (by kernel_rfl))
  f20 := ⟨"slices.insertionSortCmpFunc[int]", by decide, Try.func47.trans (congrArg some (by kernel_rfl))⟩
  f21 := ⟨"slices.heapSortCmpFunc[int]", by decide, Try.func48.trans (congrArg some (by kernel_rfl))⟩
  f22 := ⟨"slices.breakPatternsCmpFunc[int]", by decide, Try.func49.trans (congrArg some (by kernel_rfl))⟩
  f23 := ⟨"slices.choosePivotCmpFunc[int]", by decide, Try.func50.trans (congrArg some (by kernel_rfl))⟩
  f24 := ⟨"slices.reverseRangeCmpFunc[int]", by decide, Try.func51.trans (congrArg some (by kernel_rfl))⟩
  f25 := ⟨"slices.partialInsertionSortCmpFunc[int]", by decide, Try.func52.trans (congrArg some (by kernel_rfl))⟩
  f26 := ⟨"slices.partitionEqualCmpFunc[int]", by decide, Try.func53.trans (congrArg some (by kernel_rfl))⟩
  f27 := ⟨"slices.partitionCmpFunc[int]", by decide, Try.func54.trans (congrArg some (by kernel_rfl))⟩
  f28 := Try.func55.trans (congrArg some (by kernel_rfl))
  f29 := Try.func56.trans (congrArg some (by kernel_rfl))
  f46 := ⟨"slices.siftDownCmpFunc[int]", by decide, Try.func58.trans (congrArg some (by kernel_rfl))⟩
  f47 := Try.func59.trans (congrArg some (by kernel_rfl))
  f48 := Try.func60.trans (congrArg some (by kernel_rfl))
  f49 := ⟨"slices.medianAdjacentCmpFunc[int]", by decide, Try.func61.trans (congrArg some (by kernel_rfl))⟩
  f50 := ⟨"slices.medianCmpFunc[int]", by decide, Try.func62.trans (congrArg some (by kernel_rfl))⟩
  f57 := ⟨"slices.order2CmpFunc[int]", by decide, Try.func63.trans (congrArg some (by kernel_rfl))⟩
  t0 := Try.underlying0
  a0 := Try.isAgg0
  z0 := Try.sizeOf0
  v0 := Try.zeroValue0
  t3 := Try.underlying3
  a3 := Try.isAgg3
  z3 := Try.sizeOf3
  v3 := Try.zeroValue3
  t4 := Try.underlying4
  a4 := Try.isAgg4
  z4 := Try.sizeOf4
  v4 := Try.zeroValue4
  t5 := Try.underlying5
  a5 := Try.isAgg5
  z5 := Try.sizeOf5
  v5 := Try.zeroValue5
  t9 := Try.underlying9
  a9 := Try.isAgg9
  z9 := Try.sizeOf9
  v9 := Try.zeroValue9
  t22 := Try.underlying23
  a22 := Try.isAgg23
  z22 := Try.sizeOf23
  v22 := Try.zeroValue23
  a24 := Try.isAgg3
  z24 := Try.sizeOf3
  t25 := Try.underlying65
  a25 := Try.isAgg65
  z25 := Try.sizeOf65
  v25 := Try.zeroValue65
  t39 := Try.underlying71
  a39 := Try.isAgg71
  z39 := Try.sizeOf71
  v39 := Try.zeroValue71
  t45 := Try.underlying75
  a45 := Try.isAgg75
  z45 := Try.sizeOf75
  v45 := Try.zeroValue75
  t46 := Try.underlying76
  a46 := Try.isAgg76
  z46 := Try.sizeOf76
  v46 := Try.zeroValue76
  t50 := Try.underlying80
  a50 := Try.isAgg80
  z50 := Try.sizeOf80
  v50 := Try.zeroValue80
  t53 := Try.underlying83
  a53 := Try.isAgg83
  z53 := Try.sizeOf83
  v53 := Try.zeroValue83
  t55 := Try.underlying85
  a55 := Try.isAgg85
  z55 := Try.sizeOf85
  v55 := Try.zeroValue85
  t66 := Try.underlying86
  a66 := Try.isAgg86
  z66 := Try.sizeOf86
  v66 := Try.zeroValue86
  t70 := Try.underlying90
  a70 := Try.isAgg90
  z70 := Try.sizeOf90
  v70 := Try.zeroValue90
  t76 := Try.underlying92
  a76 := Try.isAgg92
  z76 := Try.sizeOf92
  v76 := Try.zeroValue92
  t77 := Try.underlying93
  a77 := Try.isAgg93
  z77 := Try.sizeOf93
  v77 := Try.zeroValue93
theorem sortC : SortC Try.prog 31 (Ty.size (VT.ty (.cell (.int .i64)))) (argV (.cell (.int .i64))) := sortC_1 laid 1 rfl
end Go.Proofs.Ytoapmjnfiimmjaa.Sort31
