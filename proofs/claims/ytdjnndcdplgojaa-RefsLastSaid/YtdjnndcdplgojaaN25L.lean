/- The library's texts maps.Keys, slices.Sorted and slices.Sort, laid at this program. -/
import Derived.Test.YtdjnndcdplgojaaN25C
import Derived.Shelf.SlIterI.Nil
import Derived.Shelf.SortM.Plain
import Derived.Shelf.SortM.SortNone
import Derived.Ground.GgzProg
import Derived.Ground.SlgmProg
namespace Go.Proofs.TryN
open Go Go.AL Go.Proofs Go.Shelf

def keysA_ren : Go.Shelf.Ren := ⟨fun | 7 => 20 | 10 => 24 | n => n, fun | 23 => 54 | 26 => 3 | 3 => 40 | 28 => 61 | 0 => 0 | 27 => 60 | 33 => 46 | 4 => 4 | n => n, fun | n => n⟩
theorem keysA : Go.Proofs.SlLaysZI.n7 Try.prog keysA_ren where
  mixed := by kernel_rfl
  f7 := ⟨"maps.Keys[map[int]shingle/api.Frame,int,shingle/api.Frame]", by decide, Try.func20.trans (congrArg some (by kernel_rfl))⟩
  f10 := ⟨"maps.Keys[map[int]shingle/api.Frame,int,shingle/api.Frame]$1", by decide, Try.func24.trans (congrArg some (by kernel_rfl))⟩
  t0 := Try.underlying0
  a0 := Try.isAgg0
  z0 := Try.sizeOf0
  v0 := Try.zeroValue0
  t4 := Try.underlying4
  a4 := Try.isAgg4
  z4 := Try.sizeOf4
  v4 := Try.zeroValue4
  t23 := Try.underlying54
  a23 := Try.isAgg54
  z23 := Try.sizeOf54
  v23 := Try.zeroValue54
  t26 := Try.underlying3
  a26 := Try.isAgg3
  z26 := Try.sizeOf3
  v26 := Try.zeroValue3
  t27 := Try.underlying60
  a27 := Try.isAgg60
  z27 := Try.sizeOf60
  v27 := Try.zeroValue60
  t28 := Try.underlying61
  a28 := Try.isAgg61
  z28 := Try.sizeOf61
  v28 := Try.zeroValue61
  t33 := Try.underlying46
  a33 := Try.isAgg46
  z33 := Try.sizeOf46
  v33 := Try.zeroValue46
def sortedA_ren : Go.Shelf.Ren := ⟨fun | 6 => 19 | 8 => 22 | 9 => 23 | 11 => 25 | 13 => 27 | 12 => 26 | 23 => 37 | 24 => 38 | 14 => 28 | 15 => 29 | 16 => 30 | 17 => 31 | 18 => 32 | 19 => 33 | 20 => 34 | 21 => 35 | 22 => 36 | 25 => 39 | 26 => 40 | 27 => 41 | 28 => 42 | 29 => 43 | 30 => 44 | 31 => 45 | n => n, fun | 26 => 3 | 28 => 61 | 24 => 35 | 0 => 0 | 3 => 3 | 37 => 32 | 48 => 78 | 50 => 80 | 4 => 4 | 40 => 70 | 39 => 69 | 45 => 75 | 5 => 5 | 9 => 9 | 51 => 81 | 55 => 85 | 57 => 87 | 58 => 88 | 33 => 46 | n => n, fun | n => n⟩
theorem sortedA : Go.Proofs.SlLaysZI.n6 Try.prog sortedA_ren where
  mixed := by kernel_rfl
  f6 := ⟨"slices.Sorted[int]", by decide, Try.func19.trans (congrArg some (by kernel_rfl))⟩
  f8 := ⟨"slices.Collect[int]", by decide, Try.func22.trans (congrArg some (by kernel_rfl))⟩
  f11 := ⟨"slices.AppendSeq[[]int,int]", by decide, Try.func25.trans (congrArg some (by kernel_rfl))⟩
  t0 := Try.underlying0
  a0 := Try.isAgg0
  z0 := Try.sizeOf0
  v0 := Try.zeroValue0
  t24 := Try.underlying35
  a24 := Try.isAgg35
  z24 := Try.sizeOf35
  v24 := Try.zeroValue35
  t26 := Try.underlying3
  a26 := Try.isAgg3
  z26 := Try.sizeOf3
  v26 := Try.zeroValue3
  t28 := Try.underlying61
  a28 := Try.isAgg61
  z28 := Try.sizeOf61
  v28 := Try.zeroValue61
  i26 := by kernel_rfl
def sortA_ren : Go.Shelf.Ren := ⟨fun | 5 => 23 | 8 => 27 | 7 => 26 | 19 => 37 | 20 => 38 | 10 => 28 | 11 => 29 | 12 => 30 | 13 => 31 | 14 => 32 | 15 => 33 | 16 => 34 | 17 => 35 | 18 => 36 | 30 => 39 | 31 => 40 | 32 => 41 | 33 => 42 | 34 => 43 | 35 => 44 | 40 => 45 | n => n, fun | 23 => 35 | 25 => 3 | 3 => 3 | 32 => 32 | 22 => 35 | 0 => 0 | 44 => 78 | 46 => 80 | 4 => 4 | 36 => 70 | 35 => 69 | 41 => 75 | 5 => 5 | 9 => 9 | 53 => 81 | 57 => 85 | 63 => 87 | 64 => 88 | n => n, fun | n => n⟩
theorem sortA : Go.Proofs.SlLaysM.n5 Try.prog sortA_ren where
  mixed := by kernel_rfl
  f5 := ⟨"slices.Sort[[]int,int]", by decide, Try.func23.trans (congrArg some (by kernel_rfl))⟩
  f7 := ⟨"slices.pdqsortOrdered[int]", by decide, Try.func26.trans (congrArg some (by kernel_rfl))⟩
  f8 := Try.func27.trans (congrArg some (by kernel_rfl))
  f10 := ⟨"slices.insertionSortOrdered[int]", by decide, Try.func28.trans (congrArg some (by kernel_rfl))⟩
  f11 := ⟨"slices.heapSortOrdered[int]", by decide, Try.func29.trans (congrArg some (by kernel_rfl))⟩
  f12 := ⟨"slices.breakPatternsOrdered[int]", by decide, Try.func30.trans (congrArg some (by kernel_rfl))⟩
  f13 := ⟨"slices.choosePivotOrdered[int]", by decide, Try.func31.trans (congrArg some (by kernel_rfl))⟩
  f14 := ⟨"slices.reverseRangeOrdered[int]", by decide, Try.func32.trans (congrArg some (by kernel_rfl))⟩
  f15 := ⟨"slices.partialInsertionSortOrdered[int]", by decide, Try.func33.trans (congrArg some (by kernel_rfl))⟩
  f16 := ⟨"cmp.Less[int]", by decide, Try.func34.trans (congrArg some (by kernel_rfl))⟩
  f17 := ⟨"slices.partitionEqualOrdered[int]", by decide, Try.func35.trans (congrArg some (by kernel_rfl))⟩
  f18 := ⟨"slices.partitionOrdered[int]", by decide, Try.func36.trans (congrArg some (by kernel_rfl))⟩
  f19 := Try.func37.trans (congrArg some (by kernel_rfl))
  f20 := Try.func38.trans (congrArg some (by kernel_rfl))
  f30 := ⟨"slices.siftDownOrdered[int]", by decide, Try.func39.trans (congrArg some (by kernel_rfl))⟩
  f31 := Try.func40.trans (congrArg some (by kernel_rfl))
  f32 := Try.func41.trans (congrArg some (by kernel_rfl))
  f33 := ⟨"slices.medianAdjacentOrdered[int]", by decide, Try.func42.trans (congrArg some (by kernel_rfl))⟩
  f34 := ⟨"slices.medianOrdered[int]", by decide, Try.func43.trans (congrArg some (by kernel_rfl))⟩
  f35 := ⟨"cmp.isNaN[int]", by decide, Try.func44.trans (congrArg some (by kernel_rfl))⟩
  f40 := ⟨"slices.order2Ordered[int]", by decide, Try.func45.trans (congrArg some (by kernel_rfl))⟩
  t0 := Try.underlying0
  a0 := Try.isAgg0
  z0 := Try.sizeOf0
  v0 := Try.zeroValue0
  t3 := Try.underlying3
  a3 := Try.isAgg3
  z3 := Try.sizeOf3
  v3 := Try.zeroValue3
  t4 := Try.underlying4
  a4 := Try.isAgg4
  z4 := Try.sizeOf4
  v4 := Try.zeroValue4
  t5 := Try.underlying5
  a5 := Try.isAgg5
  z5 := Try.sizeOf5
  v5 := Try.zeroValue5
  t9 := Try.underlying9
  a9 := Try.isAgg9
  z9 := Try.sizeOf9
  v9 := Try.zeroValue9
  t22 := Try.underlying35
  a22 := Try.isAgg35
  z22 := Try.sizeOf35
  v22 := Try.zeroValue35
  t23 := Try.underlying35
  a23 := Try.isAgg35
  z23 := Try.sizeOf35
  v23 := Try.zeroValue35
  t25 := Try.underlying3
  a25 := Try.isAgg3
  z25 := Try.sizeOf3
  v25 := Try.zeroValue3
  t32 := Try.underlying32
  a32 := Try.isAgg32
  z32 := Try.sizeOf32
  v32 := Try.zeroValue32
  t35 := Try.underlying69
  a35 := Try.isAgg69
  z35 := Try.sizeOf69
  v35 := Try.zeroValue69
  t36 := Try.underlying70
  a36 := Try.isAgg70
  z36 := Try.sizeOf70
  v36 := Try.zeroValue70
  t41 := Try.underlying75
  a41 := Try.isAgg75
  z41 := Try.sizeOf75
  v41 := Try.zeroValue75
  t44 := Try.underlying78
  a44 := Try.isAgg78
  z44 := Try.sizeOf78
  v44 := Try.zeroValue78
  t46 := Try.underlying80
  a46 := Try.isAgg80
  z46 := Try.sizeOf80
  v46 := Try.zeroValue80
  t53 := Try.underlying81
  a53 := Try.isAgg81
  z53 := Try.sizeOf81
  v53 := Try.zeroValue81
  t57 := Try.underlying85
  a57 := Try.isAgg85
  z57 := Try.sizeOf85
  v57 := Try.zeroValue85
  t63 := Try.underlying87
  a63 := Try.isAgg87
  z63 := Try.sizeOf87
  v63 := Try.zeroValue87
  t64 := Try.underlying88
  a64 := Try.isAgg88
  z64 := Try.sizeOf88
  v64 := Try.zeroValue88

end Go.Proofs.TryN

