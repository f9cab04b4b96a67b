/-
  LAID: maps.Keys, slices.Sorted and slices.Sort, by the shelf.
-/
import Derived.Shelf.SlIterI.Sorted
import Derived.Shelf.SortM.Plain
import Derived.Shelf.SortM.SortNone
import Derived.Test.YtpleolmalbdpnaaDoorProg
namespace Go.Proofs
open Go Go.Shelf
def Tryd.keysA_ren : Go.Shelf.Ren := ⟨fun | 7 => 64 | 10 => 81 | n => n, fun | 23 => 108 | 26 => 3 | 3 => 28 | 28 => 118 | 0 => 0 | 27 => 117 | 33 => 115 | 4 => 4 | n => n, fun n => n⟩
theorem Tryd.keysA : SlLaysZI.n7 Tryd.prog Tryd.keysA_ren where
  mixed := by kernel_rfl
  f7 := ⟨ "maps.Keys[map[int][]byte,int,[]byte]", by decide, Tryd.func64.trans (congrArg some (by kernel_rfl))⟩
  f10 := ⟨ "maps.Keys[map[int][]byte,int,[]byte]$1", by decide, Tryd.func81.trans (congrArg some (by kernel_rfl))⟩
  t0 := Tryd.underlying0
  a0 := Tryd.isAgg0
  z0 := Tryd.sizeOf0
  v0 := Tryd.zeroValue0
  t4 := Tryd.underlying4
  a4 := Tryd.isAgg4
  z4 := Tryd.sizeOf4
  v4 := Tryd.zeroValue4
  t23 := Tryd.underlying108
  a23 := Tryd.isAgg108
  z23 := Tryd.sizeOf108
  v23 := Tryd.zeroValue108
  t26 := Tryd.underlying3
  a26 := Tryd.isAgg3
  z26 := Tryd.sizeOf3
  v26 := Tryd.zeroValue3
  t27 := Tryd.underlying117
  a27 := Tryd.isAgg117
  z27 := Tryd.sizeOf117
  v27 := Tryd.zeroValue117
  t28 := Tryd.underlying118
  a28 := Tryd.isAgg118
  z28 := Tryd.sizeOf118
  v28 := Tryd.zeroValue118
  t33 := Tryd.underlying115
  a33 := Tryd.isAgg115
  z33 := Tryd.sizeOf115
  v33 := Tryd.zeroValue115
def Tryd.sortedA_ren : Go.Shelf.Ren := ⟨fun | 6 => 63 | 8 => 79 | 9 => 80 | 11 => 93 | 13 => 95 | 12 => 94 | 23 => 109 | 24 => 110 | 14 => 100 | 15 => 101 | 16 => 102 | 17 => 103 | 18 => 104 | 19 => 105 | 20 => 106 | 21 => 107 | 22 => 108 | 25 => 113 | 26 => 114 | 27 => 115 | 28 => 116 | 29 => 117 | 30 => 118 | 31 => 119 | n => n, fun | 26 => 3 | 28 => 118 | 24 => 46 | 0 => 0 | 3 => 3 | 37 => 147 | 48 => 125 | 50 => 124 | 4 => 4 | 40 => 155 | 39 => 154 | 45 => 160 | 5 => 5 | 9 => 9 | 51 => 169 | 55 => 173 | 57 => 176 | 58 => 32 | 33 => 115 | n => n, fun n => n⟩
theorem Tryd.sortedA : SlLaysZI.n6 Tryd.prog Tryd.sortedA_ren where
  mixed := by kernel_rfl
  f6 := ⟨ "slices.Sorted[int]", by decide, Tryd.func63.trans (congrArg some (by kernel_rfl))⟩
  f8 := ⟨ "slices.Collect[int]", by decide, Tryd.func79.trans (congrArg some (by kernel_rfl))⟩
  f11 := ⟨ "slices.AppendSeq[[]int,int]", by decide, Tryd.func93.trans (congrArg some (by kernel_rfl))⟩
  t0 := Tryd.underlying0
  a0 := Tryd.isAgg0
  z0 := Tryd.sizeOf0
  v0 := Tryd.zeroValue0
  t24 := Tryd.underlying46
  a24 := Tryd.isAgg46
  z24 := Tryd.sizeOf46
  v24 := Tryd.zeroValue46
  t26 := Tryd.underlying3
  a26 := Tryd.isAgg3
  z26 := Tryd.sizeOf3
  v26 := Tryd.zeroValue3
  t28 := Tryd.underlying118
  a28 := Tryd.isAgg118
  z28 := Tryd.sizeOf118
  v28 := Tryd.zeroValue118
  i26 := by kernel_rfl
def Tryd.sortA_ren : Go.Shelf.Ren := ⟨fun | 5 => 80 | 8 => 95 | 7 => 94 | 19 => 109 | 20 => 110 | 10 => 100 | 11 => 101 | 12 => 102 | 13 => 103 | 14 => 104 | 15 => 105 | 16 => 106 | 17 => 107 | 18 => 108 | 30 => 113 | 31 => 114 | 32 => 115 | 33 => 116 | 34 => 117 | 35 => 118 | 40 => 119 | n => n, fun | 23 => 46 | 25 => 3 | 3 => 3 | 32 => 147 | 22 => 46 | 0 => 0 | 44 => 125 | 46 => 124 | 4 => 4 | 36 => 155 | 35 => 154 | 41 => 160 | 5 => 5 | 9 => 9 | 53 => 169 | 57 => 173 | 63 => 176 | 64 => 32 | n => n, fun n => n⟩
theorem Tryd.sortA : SlLaysM.n5 Tryd.prog Tryd.sortA_ren where
  mixed := by kernel_rfl
  f5 := ⟨ "slices.Sort[[]int,int]", by decide, Tryd.func80.trans (congrArg some (by kernel_rfl))⟩
  f7 := ⟨ "slices.pdqsortOrdered[int]", by decide, Tryd.func94.trans (congrArg some (by kernel_rfl))⟩
  f8 := Tryd.func95.trans (congrArg some (by kernel_rfl))
  f10 := ⟨ "slices.insertionSortOrdered[int]", by decide, Tryd.func100.trans (congrArg some (by kernel_rfl))⟩
  f11 := ⟨ "slices.heapSortOrdered[int]", by decide, Tryd.func101.trans (congrArg some (by kernel_rfl))⟩
  f12 := ⟨ "slices.breakPatternsOrdered[int]", by decide, Tryd.func102.trans (congrArg some (by kernel_rfl))⟩
  f13 := ⟨ "slices.choosePivotOrdered[int]", by decide, Tryd.func103.trans (congrArg some (by kernel_rfl))⟩
  f14 := ⟨ "slices.reverseRangeOrdered[int]", by decide, Tryd.func104.trans (congrArg some (by kernel_rfl))⟩
  f15 := ⟨ "slices.partialInsertionSortOrdered[int]", by decide, Tryd.func105.trans (congrArg some (by kernel_rfl))⟩
  f16 := ⟨ "cmp.Less[int]", by decide, Tryd.func106.trans (congrArg some (by kernel_rfl))⟩
  f17 := ⟨ "slices.partitionEqualOrdered[int]", by decide, Tryd.func107.trans (congrArg some (by kernel_rfl))⟩
  f18 := ⟨ "slices.partitionOrdered[int]", by decide, Tryd.func108.trans (congrArg some (by kernel_rfl))⟩
  f19 := Tryd.func109.trans (congrArg some (by kernel_rfl))
  f20 := Tryd.func110.trans (congrArg some (by kernel_rfl))
  f30 := ⟨ "slices.siftDownOrdered[int]", by decide, Tryd.func113.trans (congrArg some (by kernel_rfl))⟩
  f31 := Tryd.func114.trans (congrArg some (by kernel_rfl))
  f32 := Tryd.func115.trans (congrArg some (by kernel_rfl))
  f33 := ⟨ "slices.medianAdjacentOrdered[int]", by decide, Tryd.func116.trans (congrArg some (by kernel_rfl))⟩
  f34 := ⟨ "slices.medianOrdered[int]", by decide, Tryd.func117.trans (congrArg some (by kernel_rfl))⟩
  f35 := ⟨ "cmp.isNaN[int]", by decide, Tryd.func118.trans (congrArg some (by kernel_rfl))⟩
  f40 := ⟨ "slices.order2Ordered[int]", by decide, Tryd.func119.trans (congrArg some (by kernel_rfl))⟩
  t0 := Tryd.underlying0
  a0 := Tryd.isAgg0
  z0 := Tryd.sizeOf0
  v0 := Tryd.zeroValue0
  t3 := Tryd.underlying3
  a3 := Tryd.isAgg3
  z3 := Tryd.sizeOf3
  v3 := Tryd.zeroValue3
  t4 := Tryd.underlying4
  a4 := Tryd.isAgg4
  z4 := Tryd.sizeOf4
  v4 := Tryd.zeroValue4
  t5 := Tryd.underlying5
  a5 := Tryd.isAgg5
  z5 := Tryd.sizeOf5
  v5 := Tryd.zeroValue5
  t9 := Tryd.underlying9
  a9 := Tryd.isAgg9
  z9 := Tryd.sizeOf9
  v9 := Tryd.zeroValue9
  t22 := Tryd.underlying46
  a22 := Tryd.isAgg46
  z22 := Tryd.sizeOf46
  v22 := Tryd.zeroValue46
  t23 := Tryd.underlying46
  a23 := Tryd.isAgg46
  z23 := Tryd.sizeOf46
  v23 := Tryd.zeroValue46
  t25 := Tryd.underlying3
  a25 := Tryd.isAgg3
  z25 := Tryd.sizeOf3
  v25 := Tryd.zeroValue3
  t32 := Tryd.underlying147
  a32 := Tryd.isAgg147
  z32 := Tryd.sizeOf147
  v32 := Tryd.zeroValue147
  t35 := Tryd.underlying154
  a35 := Tryd.isAgg154
  z35 := Tryd.sizeOf154
  v35 := Tryd.zeroValue154
  t36 := Tryd.underlying155
  a36 := Tryd.isAgg155
  z36 := Tryd.sizeOf155
  v36 := Tryd.zeroValue155
  t41 := Tryd.underlying160
  a41 := Tryd.isAgg160
  z41 := Tryd.sizeOf160
  v41 := Tryd.zeroValue160
  t44 := Tryd.underlying125
  a44 := Tryd.isAgg125
  z44 := Tryd.sizeOf125
  v44 := Tryd.zeroValue125
  t46 := Tryd.underlying124
  a46 := Tryd.isAgg124
  z46 := Tryd.sizeOf124
  v46 := Tryd.zeroValue124
  t53 := Tryd.underlying169
  a53 := Tryd.isAgg169
  z53 := Tryd.sizeOf169
  v53 := Tryd.zeroValue169
  t57 := Tryd.underlying173
  a57 := Tryd.isAgg173
  z57 := Tryd.sizeOf173
  v57 := Tryd.zeroValue173
  t63 := Tryd.underlying176
  a63 := Tryd.isAgg176
  z63 := Tryd.sizeOf176
  v63 := Tryd.zeroValue176
  t64 := Tryd.underlying32
  a64 := Tryd.isAgg32
  z64 := Tryd.sizeOf32
  v64 := Tryd.zeroValue32
end Go.Proofs
