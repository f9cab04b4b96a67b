/-
  LAID: maps.Keys, slices.Sorted and slices.Sort, by the shelf.
-/
import Derived.Shelf.SlIterI.Sorted
import Derived.Shelf.SortM.Plain
import Derived.Shelf.SortM.SortNone
import Derived.Test.YtpleolmalbdpnaaProg
namespace Go.Proofs
open Go Go.Shelf
def Try.keysA_ren : Go.Shelf.Ren := ⟨fun | 7 => 38 | 10 => 49 | n => n, fun | 23 => 66 | 26 => 3 | 3 => 22 | 28 => 74 | 0 => 0 | 27 => 73 | 33 => 92 | 4 => 4 | n => n, fun n => n⟩
theorem Try.keysA : SlLaysZI.n7 Try.prog Try.keysA_ren where
  mixed := by kernel_rfl
  f7 := ⟨ "maps.Keys[map[int][]byte,int,[]byte]", by decide, Try.func38.trans (congrArg some (by kernel_rfl))⟩
  f10 := ⟨ "maps.Keys[map[int][]byte,int,[]byte]$1", by decide, Try.func49.trans (congrArg some (by kernel_rfl))⟩
  t0 := Try.underlying0
  a0 := Try.isAgg0
  z0 := Try.sizeOf0
  v0 := Try.zeroValue0
  t4 := Try.underlying4
  a4 := Try.isAgg4
  z4 := Try.sizeOf4
  v4 := Try.zeroValue4
  t23 := Try.underlying66
  a23 := Try.isAgg66
  z23 := Try.sizeOf66
  v23 := Try.zeroValue66
  t26 := Try.underlying3
  a26 := Try.isAgg3
  z26 := Try.sizeOf3
  v26 := Try.zeroValue3
  t27 := Try.underlying73
  a27 := Try.isAgg73
  z27 := Try.sizeOf73
  v27 := Try.zeroValue73
  t28 := Try.underlying74
  a28 := Try.isAgg74
  z28 := Try.sizeOf74
  v28 := Try.zeroValue74
  t33 := Try.underlying92
  a33 := Try.isAgg92
  z33 := Try.sizeOf92
  v33 := Try.zeroValue92
def Try.sortedA_ren : Go.Shelf.Ren := ⟨fun | 6 => 37 | 8 => 47 | 9 => 48 | 11 => 51 | 13 => 53 | 12 => 52 | 23 => 63 | 24 => 64 | 14 => 54 | 15 => 55 | 16 => 56 | 17 => 57 | 18 => 58 | 19 => 59 | 20 => 60 | 21 => 61 | 22 => 62 | 25 => 65 | 26 => 66 | 27 => 67 | 28 => 68 | 29 => 69 | 30 => 70 | 31 => 71 | n => n, fun | 26 => 3 | 28 => 74 | 24 => 32 | 0 => 0 | 3 => 3 | 37 => 99 | 48 => 109 | 50 => 111 | 4 => 4 | 40 => 102 | 39 => 101 | 45 => 106 | 5 => 5 | 9 => 9 | 51 => 112 | 55 => 116 | 57 => 118 | 58 => 119 | 33 => 92 | n => n, fun n => n⟩
theorem Try.sortedA : SlLaysZI.n6 Try.prog Try.sortedA_ren where
  mixed := by kernel_rfl
  f6 := ⟨ "slices.Sorted[int]", by decide, Try.func37.trans (congrArg some (by kernel_rfl))⟩
  f8 := ⟨ "slices.Collect[int]", by decide, Try.func47.trans (congrArg some (by kernel_rfl))⟩
  f11 := ⟨ "slices.AppendSeq[[]int,int]", by decide, Try.func51.trans (congrArg some (by kernel_rfl))⟩
  t0 := Try.underlying0
  a0 := Try.isAgg0
  z0 := Try.sizeOf0
  v0 := Try.zeroValue0
  t24 := Try.underlying32
  a24 := Try.isAgg32
  z24 := Try.sizeOf32
  v24 := Try.zeroValue32
  t26 := Try.underlying3
  a26 := Try.isAgg3
  z26 := Try.sizeOf3
  v26 := Try.zeroValue3
  t28 := Try.underlying74
  a28 := Try.isAgg74
  z28 := Try.sizeOf74
  v28 := Try.zeroValue74
  i26 := by kernel_rfl
def Try.sortA_ren : Go.Shelf.Ren := ⟨fun | 5 => 48 | 8 => 53 | 7 => 52 | 19 => 63 | 20 => 64 | 10 => 54 | 11 => 55 | 12 => 56 | 13 => 57 | 14 => 58 | 15 => 59 | 16 => 60 | 17 => 61 | 18 => 62 | 30 => 65 | 31 => 66 | 32 => 67 | 33 => 68 | 34 => 69 | 35 => 70 | 40 => 71 | n => n, fun | 23 => 32 | 25 => 3 | 3 => 3 | 32 => 99 | 22 => 32 | 0 => 0 | 44 => 109 | 46 => 111 | 4 => 4 | 36 => 102 | 35 => 101 | 41 => 106 | 5 => 5 | 9 => 9 | 53 => 112 | 57 => 116 | 63 => 118 | 64 => 119 | n => n, fun n => n⟩
theorem Try.sortA : SlLaysM.n5 Try.prog Try.sortA_ren where
  mixed := by kernel_rfl
  f5 := ⟨ "slices.Sort[[]int,int]", by decide, Try.func48.trans (congrArg some (by kernel_rfl))⟩
  f7 := ⟨ "slices.pdqsortOrdered[int]", by decide, Try.func52.trans (congrArg some (by kernel_rfl))⟩
  f8 := Try.func53.trans (congrArg some (by kernel_rfl))
  f10 := ⟨ "slices.insertionSortOrdered[int]", by decide, Try.func54.trans (congrArg some (by kernel_rfl))⟩
  f11 := ⟨ "slices.heapSortOrdered[int]", by decide, Try.func55.trans (congrArg some (by kernel_rfl))⟩
  f12 := ⟨ "slices.breakPatternsOrdered[int]", by decide, Try.func56.trans (congrArg some (by kernel_rfl))⟩
  f13 := ⟨ "slices.choosePivotOrdered[int]", by decide, Try.func57.trans (congrArg some (by kernel_rfl))⟩
  f14 := ⟨ "slices.reverseRangeOrdered[int]", by decide, Try.func58.trans (congrArg some (by kernel_rfl))⟩
  f15 := ⟨ "slices.partialInsertionSortOrdered[int]", by decide, Try.func59.trans (congrArg some (by kernel_rfl))⟩
  f16 := ⟨ "cmp.Less[int]", by decide, Try.func60.trans (congrArg some (by kernel_rfl))⟩
  f17 := ⟨ "slices.partitionEqualOrdered[int]", by decide, Try.func61.trans (congrArg some (by kernel_rfl))⟩
  f18 := ⟨ "slices.partitionOrdered[int]", by decide, Try.func62.trans (congrArg some (by kernel_rfl))⟩
  f19 := Try.func63.trans (congrArg some (by kernel_rfl))
  f20 := Try.func64.trans (congrArg some (by kernel_rfl))
  f30 := ⟨ "slices.siftDownOrdered[int]", by decide, Try.func65.trans (congrArg some (by kernel_rfl))⟩
  f31 := Try.func66.trans (congrArg some (by kernel_rfl))
  f32 := Try.func67.trans (congrArg some (by kernel_rfl))
  f33 := ⟨ "slices.medianAdjacentOrdered[int]", by decide, Try.func68.trans (congrArg some (by kernel_rfl))⟩
  f34 := ⟨ "slices.medianOrdered[int]", by decide, Try.func69.trans (congrArg some (by kernel_rfl))⟩
  f35 := ⟨ "cmp.isNaN[int]", by decide, Try.func70.trans (congrArg some (by kernel_rfl))⟩
  f40 := ⟨ "slices.order2Ordered[int]", by decide, Try.func71.trans (congrArg some (by kernel_rfl))⟩
  t0 := Try.underlying0
  a0 := Try.isAgg0
  z0 := Try.sizeOf0
  v0 := Try.zeroValue0
  t3 := Try.underlying3
  a3 := Try.isAgg3
  z3 := Try.sizeOf3
  v3 := Try.zeroValue3
  t4 := Try.underlying4
  a4 := Try.isAgg4
  z4 := Try.sizeOf4
  v4 := Try.zeroValue4
  t5 := Try.underlying5
  a5 := Try.isAgg5
  z5 := Try.sizeOf5
  v5 := Try.zeroValue5
  t9 := Try.underlying9
  a9 := Try.isAgg9
  z9 := Try.sizeOf9
  v9 := Try.zeroValue9
  t22 := Try.underlying32
  a22 := Try.isAgg32
  z22 := Try.sizeOf32
  v22 := Try.zeroValue32
  t23 := Try.underlying32
  a23 := Try.isAgg32
  z23 := Try.sizeOf32
  v23 := Try.zeroValue32
  t25 := Try.underlying3
  a25 := Try.isAgg3
  z25 := Try.sizeOf3
  v25 := Try.zeroValue3
  t32 := Try.underlying99
  a32 := Try.isAgg99
  z32 := Try.sizeOf99
  v32 := Try.zeroValue99
  t35 := Try.underlying101
  a35 := Try.isAgg101
  z35 := Try.sizeOf101
  v35 := Try.zeroValue101
  t36 := Try.underlying102
  a36 := Try.isAgg102
  z36 := Try.sizeOf102
  v36 := Try.zeroValue102
  t41 := Try.underlying106
  a41 := Try.isAgg106
  z41 := Try.sizeOf106
  v41 := Try.zeroValue106
  t44 := Try.underlying109
  a44 := Try.isAgg109
  z44 := Try.sizeOf109
  v44 := Try.zeroValue109
  t46 := Try.underlying111
  a46 := Try.isAgg111
  z46 := Try.sizeOf111
  v46 := Try.zeroValue111
  t53 := Try.underlying112
  a53 := Try.isAgg112
  z53 := Try.sizeOf112
  v53 := Try.zeroValue112
  t57 := Try.underlying116
  a57 := Try.isAgg116
  z57 := Try.sizeOf116
  v57 := Try.zeroValue116
  t63 := Try.underlying118
  a63 := Try.isAgg118
  z63 := Try.sizeOf118
  v63 := Try.zeroValue118
  t64 := Try.underlying119
  a64 := Try.isAgg119
  z64 := Try.sizeOf119
  v64 := Try.zeroValue119
end Go.Proofs
