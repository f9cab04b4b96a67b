import Derived.Shelf.SlIterI.Sorted
import Derived.Shelf.SortM.Plain
import Derived.Shelf.SortM.SortNone
import Derived.Test.YtpleolmalbdpnaaDoorProg
import Derived.Test.YtpleolmalbdpnaaDoorTmC
/-
  LAID: maps.Keys, slices.Sorted and slices.Sort, by the shelf.
-/
namespace Go.Proofs
open Go Go.Shelf
def Tryd.keysA_ren : Go.Shelf.Ren := ⟨fun | 7 => 64 | 10 => 81 | n => n, fun | 23 => 108 | 26 => 3 | 3 => 28 | 28 => 118 | 0 => 0 | 27 => 117 | 33 => 115 | 4 => 4 | n => n, fun n => n⟩
theorem Tryd.keysA : SlLaysZI.n7 Tryd.prog Tryd.keysA_ren where
  mixed := by kernel_rfl
  f7 := ⟨ "maps.Keys[map[int][]byte,int,[]byte]", by decide, Tryd.func64.trans (congrArg some (by kernel_rfl))⟩
  f10 := ⟨ "maps.Keys[map[int][]byte,int,[]byte]$1", by decide, Tryd.func81.trans (congrArg some (by kernel_rfl))⟩
  t0 := Tryd.underlying0
  a0 := Tryd.isAgg0
  z0 := Tryd.sizeOf0
  v0 := Tryd.zeroValue0
  t4 := Tryd.underlying4
  a4 := Tryd.isAgg4
  z4 := Tryd.sizeOf4
  v4 := Tryd.zeroValue4
  t23 := Tryd.underlying108
  a23 := Tryd.isAgg108
  z23 := Tryd.sizeOf108
  v23 := Tryd.zeroValue108
  t26 := Tryd.underlying3
  a26 := Tryd.isAgg3
  z26 := Tryd.sizeOf3
  v26 := Tryd.zeroValue3
  t27 := Tryd.underlying117
  a27 := Tryd.isAgg117
  z27 := Tryd.sizeOf117
  v27 := Tryd.zeroValue117
  t28 := Tryd.underlying118
  a28 := Tryd.isAgg118
  z28 := Tryd.sizeOf118
  v28 := Tryd.zeroValue118
  t33 := Tryd.underlying115
  a33 := Tryd.isAgg115
  z33 := Tryd.sizeOf115
  v33 := Tryd.zeroValue115
def Tryd.sortedA_ren : Go.Shelf.Ren := ⟨fun | 6 => 63 | 8 => 79 | 9 => 80 | 11 => 93 | 13 => 95 | 12 => 94 | 23 => 109 | 24 => 110 | 14 => 100 | 15 => 101 | 16 => 102 | 17 => 103 | 18 => 104 | 19 => 105 | 20 => 106 | 21 => 107 | 22 => 108 | 25 => 113 | 26 => 114 | 27 => 115 | 28 => 116 | 29 => 117 | 30 => 118 | 31 => 119 | n => n, fun | 26 => 3 | 28 => 118 | 24 => 46 | 0 => 0 | 3 => 3 | 37 => 147 | 48 => 125 | 50 => 124 | 4 => 4 | 40 => 155 | 39 => 154 | 45 => 160 | 5 => 5 | 9 => 9 | 51 => 169 | 55 => 173 | 57 => 176 | 58 => 32 | 33 => 115 | n => n, fun n => n⟩
theorem Tryd.sortedA : SlLaysZI.n6 Tryd.prog Tryd.sortedA_ren where
  mixed := by kernel_rfl
  f6 := ⟨ "slices.Sorted[int]", by decide, Tryd.func63.trans (congrArg some (by kernel_rfl))⟩
  f8 := ⟨ "slices.Collect[int]", by decide, Tryd.func79.trans (congrArg some (by kernel_rfl))⟩
  f11 := ⟨ "slices.AppendSeq[[]int,int]", by decide, Tryd.func93.trans (congrArg some (by kernel_rfl))⟩
  t0 := Tryd.underlying0
  a0 := Tryd.isAgg0
  z0 := Tryd.sizeOf0
  v0 := Tryd.zeroValue0
  t24 := Tryd.underlying46
  a24 := Tryd.isAgg46
  z24 := Tryd.sizeOf46
  v24 := Tryd.zeroValue46
  t26 := Tryd.underlying3
  a26 := Tryd.isAgg3
  z26 := Tryd.sizeOf3
  v26 := Tryd.zeroValue3
  t28 := Tryd.underlying118
  a28 := Tryd.isAgg118
  z28 := Tryd.sizeOf118
  v28 := Tryd.zeroValue118
  i26 := by kernel_rfl
def Tryd.sortA_ren : Go.Shelf.Ren := ⟨fun | 5 => 80 | 8 => 95 | 7 => 94 | 19 => 109 | 20 => 110 | 10 => 100 | 11 => 101 | 12 => 102 | 13 => 103 | 14 => 104 | 15 => 105 | 16 => 106 | 17 => 107 | 18 => 108 | 30 => 113 | 31 => 114 | 32 => 115 | 33 => 116 | 34 => 117 | 35 => 118 | 40 => 119 | n => n, fun | 23 => 46 | 25 => 3 | 3 => 3 | 32 => 147 | 22 => 46 | 0 => 0 | 44 => 125 | 46 => 124 | 4 => 4 | 36 => 155 | 35 => 154 | 41 => 160 | 5 => 5 | 9 => 9 | 53 => 169 | 57 => 173 | 63 => 176 | 64 => 32 | n => n, fun n => n⟩
theorem Tryd.sortA : SlLaysM.n5 Tryd.prog Tryd.sortA_ren where
  mixed := by kernel_rfl
  f5 := ⟨ "slices.Sort[[]int,int]", by decide, Tryd.func80.trans (congrArg some (by kernel_rfl))⟩
  f7 := ⟨ "slices.pdqsortOrdered[int]", by decide, Tryd.func94.trans (congrArg some (by kernel_rfl))⟩
  f8 := Tryd.func95.trans (congrArg some (by kernel_rfl))
  f10 := ⟨ "slices.insertionSortOrdered[int]", by decide, Tryd.func100.trans (congrArg some (by kernel_rfl))⟩
  f11 := ⟨ "slices.heapSortOrdered[int]", by decide, Tryd.func101.trans (congrArg some (by kernel_rfl))⟩
  f12 := ⟨ "slices.breakPatternsOrdered[int]", by decide, Tryd.func102.trans (congrArg some (by kernel_rfl))⟩
  f13 := ⟨ "slices.choosePivotOrdered[int]", by decide, Tryd.func103.trans (congrArg some (by kernel_rfl))⟩
  f14 := ⟨ "slices.reverseRangeOrdered[int]", by decide, Tryd.func104.trans (congrArg some (by kernel_rfl))⟩
  f15 := ⟨ "slices.partialInsertionSortOrdered[int]", by decide, Tryd.func105.trans (congrArg some (by kernel_rfl))⟩
  f16 := ⟨ "cmp.Less[int]", by decide, Tryd.func106.trans (congrArg some (by kernel_rfl))⟩
  f17 := ⟨ "slices.partitionEqualOrdered[int]", by decide, Tryd.func107.trans (congrArg some (by kernel_rfl))⟩
  f18 := ⟨ "slices.partitionOrdered[int]", by decide, Tryd.func108.trans (congrArg some (by kernel_rfl))⟩
  f19 := Tryd.func109.trans (congrArg some (by kernel_rfl))
  f20 := Tryd.func110.trans (congrArg some (by kernel_rfl))
  f30 := ⟨ "slices.siftDownOrdered[int]", by decide, Tryd.func113.trans (congrArg some (by kernel_rfl))⟩
  f31 := Tryd.func114.trans (congrArg some (by kernel_rfl))
  f32 := Tryd.func115.trans (congrArg some (by kernel_rfl))
  f33 := ⟨ "slices.medianAdjacentOrdered[int]", by decide, Tryd.func116.trans (congrArg some (by kernel_rfl))⟩
  f34 := ⟨ "slices.medianOrdered[int]", by decide, Tryd.func117.trans (congrArg some (by kernel_rfl))⟩
  f35 := ⟨ "cmp.isNaN[int]", by decide, Tryd.func118.trans (congrArg some (by kernel_rfl))⟩
  f40 := ⟨ "slices.order2Ordered[int]", by decide, Tryd.func119.trans (congrArg some (by kernel_rfl))⟩
  t0 := Tryd.underlying0
  a0 := Tryd.isAgg0
  z0 := Tryd.sizeOf0
  v0 := Tryd.zeroValue0
  t3 := Tryd.underlying3
  a3 := Tryd.isAgg3
  z3 := Tryd.sizeOf3
  v3 := Tryd.zeroValue3
  t4 := Tryd.underlying4
  a4 := Tryd.isAgg4
  z4 := Tryd.sizeOf4
  v4 := Tryd.zeroValue4
  t5 := Tryd.underlying5
  a5 := Tryd.isAgg5
  z5 := Tryd.sizeOf5
  v5 := Tryd.zeroValue5
  t9 := Tryd.underlying9
  a9 := Tryd.isAgg9
  z9 := Tryd.sizeOf9
  v9 := Tryd.zeroValue9
  t22 := Tryd.underlying46
  a22 := Tryd.isAgg46
  z22 := Tryd.sizeOf46
  v22 := Tryd.zeroValue46
  t23 := Tryd.underlying46
  a23 := Tryd.isAgg46
  z23 := Tryd.sizeOf46
  v23 := Tryd.zeroValue46
  t25 := Tryd.underlying3
  a25 := Tryd.isAgg3
  z25 := Tryd.sizeOf3
  v25 := Tryd.zeroValue3
  t32 := Tryd.underlying147
  a32 := Tryd.isAgg147
  z32 := Tryd.sizeOf147
  v32 := Tryd.zeroValue147
  t35 := Tryd.underlying154
  a35 := Tryd.isAgg154
  z35 := Tryd.sizeOf154
  v35 := Tryd.zeroValue154
  t36 := Tryd.underlying155
  a36 := Tryd.isAgg155
  z36 := Tryd.sizeOf155
  v36 := Tryd.zeroValue155
  t41 := Tryd.underlying160
  a41 := Tryd.isAgg160
  z41 := Tryd.sizeOf160
  v41 := Tryd.zeroValue160
  t44 := Tryd.underlying125
  a44 := Tryd.isAgg125
  z44 := Tryd.sizeOf125
  v44 := Tryd.zeroValue125
  t46 := Tryd.underlying124
  a46 := Tryd.isAgg124
  z46 := Tryd.sizeOf124
  v46 := Tryd.zeroValue124
  t53 := Tryd.underlying169
  a53 := Tryd.isAgg169
  z53 := Tryd.sizeOf169
  v53 := Tryd.zeroValue169
  t57 := Tryd.underlying173
  a57 := Tryd.isAgg173
  z57 := Tryd.sizeOf173
  v57 := Tryd.zeroValue173
  t63 := Tryd.underlying176
  a63 := Tryd.isAgg176
  z63 := Tryd.sizeOf176
  v63 := Tryd.zeroValue176
  t64 := Tryd.underlying32
  a64 := Tryd.isAgg32
  z64 := Tryd.sizeOf32
  v64 := Tryd.zeroValue32
end Go.Proofs
/-
  WRITTEN: the numbers of the blocks that are put, rising.
-/
namespace Go.Proofs.YtpleolmalbdpnaaDoor.Tm
open Go Go.Proofs Go.Proofs.YtpleolmalbdpnaaDoor.Wx Go.Proofs.YtpleolmalbdpnaaDoor.Hp Go.Proofs.YtpleolmalbdpnaaDoor.W Go.Proofs.YtpleolmalbdpnaaDoor.Ad

theorem insert_perm {H : Type} (x : Lit × DataW H) : ∀ l : List (Lit × DataW H), (DataW.insert x l).Perm (x :: l)
  | [] => List.Perm.refl _
  | y :: r => by
    show (if x.1.before y.1 then x :: y :: r else y :: DataW.insert x r).Perm _
    split
    · exact List.Perm.refl _
    · exact ((insert_perm x r).cons y).trans (List.Perm.swap x y r)
theorem foldr_perm {H : Type} : ∀ l : List (Lit × DataW H), (l.foldr DataW.insert []).Perm l
  | [] => List.Perm.refl _
  | x :: r => (insert_perm x _).trans ((foldr_perm r).cons x)
/-- whatever stands there reads as nothing -/
def anyR : Value → Option (DataW Unit × List MemPlace) := fun _ => some (.nil, [])
def valI : Value → Int
  | .int _ n => n
  | _ => 0
def sortZ (l : List Int) : List Int := l.mergeSort fun x y => decide (x ≤ y)
theorem Sorted_spec {α : Type} {f : α → Value} {h : Heap} {bx mb : Nat} {m : List (Int × α)} {K : Value → Heap → Prop} (hbx : rd h bx = [.map (some mb)]) (M : MapAt DI h mb (mm f m)) (hm : m.length ≤ 1000000) (hr : ∀ p ∈ m, -9223372036854775808 ≤ p.1 ∧ p.1 ≤ 9223372036854775807)
    (hK : ∀ a c h', Fr No h h' → Sl h' 1 a m.length c ((sortZ (m.map (·.1))).map (.int .i64)) (From h.size) → K (.slice a m.length c) h') :
    C.slices_Sorted_int (.func (.func 81) #[] ⟨[.pointer (some ⟨bx, 0, none⟩)]⟩) h K := by
  refine ⟨⟨_, Tryd.func63, by kernel_rfl, by kernel_rfl⟩, fun w hw => ?_⟩
  subst hw
  obtain ⟨es, clock, hb, he, _, hst⟩ := M
  have hlen : es.size = m.length := by
    have := congrArg List.length he
    rw [List.length_map, List.length_map, mm_length] at this
    simpa using this
  have hkey : ∀ x ∈ es.toList, ∃ p ∈ m, x.key = .int .i64 p.1 := by
    intro x hx
    have : (x.key, x.val) ∈ es.toList.map (fun e => (e.key, e.val)) := List.mem_map.mpr ⟨x, hx, rfl⟩
    rw [he] at this
    obtain ⟨q, hq, e⟩ := List.mem_map.mp this
    obtain ⟨p, hp, rfl⟩ := List.mem_map.mp hq
    exact ⟨p, hp, (congrArg Prod.fst e).symm⟩
  have hwf : ∀ n : Int, -9223372036854775808 ≤ n ∧ n ≤ 9223372036854775807 → (Lit.int .i64 n).wf = true := fun n hn => by
    have h1 : IntKind.i64.min = -9223372036854775808 := rfl
    have h2 : IntKind.i64.max = 9223372036854775807 := rfl
    simp only [Lit.wf, Bool.and_eq_true, decide_eq_true_eq]
    omega
  have hread : ∀ n : Int, -9223372036854775808 ≤ n ∧ n ≤ 9223372036854775807 → ∀ x : MapEntry, x.key = .int .i64 n → WideElems.rd Tryd.prog 3 anyR x = some (.int .i64 n, .nil) := fun n hn x hx => by
    have h1 : keyOf Tryd.prog 3 x.key = some (.int .i64 n) := by
      rw [hx]
      simp [keyOf, mapKey, Tryd.underlying3, hwf n hn]
    simp [WideElems.rd, h1, anyR]
  have fit : WideElems.Fit Tryd.prog 3 anyR es clock := ⟨by rw [hlen]; exact Nat.le_trans hm (by decide), hst, fun x hx => by
    obtain ⟨p, hp, e⟩ := hkey x hx
    exact ⟨_, hread p.1 (hr p hp) x e⟩⟩
  have hown : w.ownsMap Tryd.prog 3 anyR mb m.length (.map ((es.toList.map (WideElems.rg Tryd.prog 3 anyR)).foldr DataW.insert [])) := ⟨es, clock, hb, fit, by omega, rfl⟩
  have hperm : (intKeys (H := Unit) (.map ((es.toList.map (WideElems.rg Tryd.prog 3 anyR)).foldr DataW.insert []))).Perm (m.map (·.1)) := by
    refine List.Perm.trans (l₂ := (es.toList.map (WideElems.rg Tryd.prog 3 anyR)).map fun p : Lit × DataW Unit => Go.intOf p.1) ((foldr_perm _).map _) ?_
    rw [List.map_map]
    have e1 : es.toList.map ((fun p : Lit × DataW Unit => Go.intOf p.1) ∘ WideElems.rg Tryd.prog 3 anyR) = m.map (·.1) := by
      have e2 : es.toList.map (fun x => x.key) = m.map fun p => (.int .i64 p.1 : Value) := by
        have := congrArg (List.map Prod.fst) he
        rw [List.map_map, List.map_map] at this
        rw [show (es.toList.map fun x => x.key) = es.toList.map (Prod.fst ∘ fun e => (e.key, e.val)) from rfl, this]
        rw [mm, List.map_map]; rfl
      have e3 : es.toList.map ((fun p : Lit × DataW Unit => Go.intOf p.1) ∘ WideElems.rg Tryd.prog 3 anyR) = (es.toList.map (fun x => x.key)).map valI := by
        rw [List.map_map]
        refine List.map_congr_left fun x hx => ?_
        obtain ⟨p, hp, e⟩ := hkey x hx
        have h1 := WideElems.rg_of (hread p.1 (hr p hp) x e)
        rw [Function.comp_apply, Function.comp_apply, h1, e]
        rfl
      rw [e3, e2, List.map_map]; rfl
    rw [e1]
  have hbl : bx < w.heap.size := rd_lt (o := 0) (v := .map (some mb)) (by rw [hbx]; rfl)
  have hsz : Maps.size (.map ((es.toList.map (WideElems.rg Tryd.prog 3 anyR)).foldr DataW.insert []) : DataW Unit) = m.length := by
    have := hperm.length_eq
    rw [List.length_map] at this
    rw [← this]
    show _ = (List.map _ _).length
    rw [List.length_map]; rfl
  have hc : w.cell? ⟨bx, 0, none⟩ = some (.map (some mb)) := rdc hbx rfl
  have hseq : SeqGives Fence.wide 2 Tryd.prog 81 #[.pointer (some ⟨bx, 0, none⟩)] encZ (fun ss => ss.Perm (intKeys (H := Unit) (.map ((es.toList.map (WideElems.rg Tryd.prog 3 anyR)).foldr DataW.insert [])))) (Maps.size (.map ((es.toList.map (WideElems.rg Tryd.prog 3 anyR)).foldr DataW.insert []) : DataW Unit)) w :=
    AnyZI.keys_gives (ρ := Tryd.keysA_ren) { Tryd.keysA with } Fence.wide _ trivial rfl (by omega) bx mb m.length _ _ hbl hc hown
  have sorts : ∀ k, AnyZI.SortsIn Tryd.prog Tryd.sortedA_ren Fence.wide k := fun k =>
    ⟨fun blk off cap ss W hH hblk hsz => callsIn_wide.2 (AnyM.slices_Sort_int Tryd.sortA blk off cap ss W hH hblk hsz),
     fun p cap W => callsIn_wide.2 (AnyM.slices_Sort_int_none Tryd.sortA p cap W)⟩
  have cS := AnyZI.sorted_in Tryd.sortedA Fence.wide 5 trivial trivial trivial trivial rfl (by omega) (sorts _) (enters_of Tryd.func80 (by kernel_rfl) rfl) 81 #[.pointer (some ⟨bx, 0, none⟩)] trivial (enters_of Tryd.func81 (by kernel_rfl) rfl) _ _ (by rw [hsz]; exact Nat.le_trans hm (by decide)) (by rw [hsz]; omega) _ hseq
  refine ((callsIn_wide (n := 5)).1 cS).mono fun e w' ⟨v, ss, he', hS, hrow, _, hbel⟩ => ?_
  have hS' : ss.Perm (m.map (·.1)) := hS.trans hperm
  have el : ss.length = m.length := by have := hS'.length_eq; rw [List.length_map] at this; exact this
  have es' : ss.mergeSort (fun x y => decide (x ≤ y)) = sortZ (m.map (·.1)) := mergeSort_of_perm_i hS'
  rw [es', el] at hrow
  have fr : Fr No w.heap w'.heap := ⟨hbel.size, fun k hk _ => hbel.block k hk⟩
  refine ⟨v, he', ⟨hbel.os, hbel.tape, hbel.output⟩, ?_⟩
  obtain ⟨hl, hrow⟩ := hrow
  rcases hrow with ⟨rfl, hz⟩ | ⟨gb, cap, cur, rfl, hbase, hgb, r1, r2, r3, r4⟩
  · rw [hz] at hK
    refine hK none 0 w'.heap fr ⟨?_, rfl, rfl⟩
    rw [hz] at hl; exact hl
  · refine hK _ cap w'.heap fr ⟨hl, rfl, hbase, ⟨_, _, hgb⟩, r1, ?_, ?_⟩
    · have e : rd w'.heap gb = cur.toList := by unfold rd; rw [hgb]
      show ((rd w'.heap gb).drop 0).take _ = _
      rw [e, List.drop_zero, hl]; exact r4
    · have e : rd w'.heap gb = cur.toList := by unfold rd; rw [hgb]
      show 0 + cap * 1 ≤ (rd w'.heap gb).length
      rw [e, Array.length_toList, r3]; omega
def TM.written (T : TM) : List Int := sortZ (T.put.map (·.1))
theorem Written_spec {h : Heap} {F : Nat → Prop} {t d : Option Addr} {T : TM} {K : Value → Heap → Prop} (x : Tx h F t d T) (hp : T.put.length ≤ 1000000)
    (hK : ∀ a l c h', Fr No h h' → l = T.put.length → Sl h' 1 a l c (T.written.map (.int .i64)) (From h.size) → K (.slice a l c) h') : C.txn_Txn_Written t h K := by
  rcases x with ⟨col, r, rfl, X, hF⟩ | ⟨col, tb, rfl, X, hF⟩
  · have elen : T.put.length = r.ps.length := by rw [X.put, List.length_map]
    refine txn_Txn_Written.ok (os ⟨_, rda X.cell rfl, cf rfl (os ⟨_, rda X.cell rfl, ?_⟩)⟩)
    refine maps_Keys_map_int_byte_int_byte.ok (New.intro fun h2 n2 => ⟨_, rfl, ?_⟩)
    obtain ⟨D, dk, _⟩ := Tx.dk (.inl ⟨col, r, rfl, X, hF⟩ : Tx h F (some ⟨r.tb, 0, none⟩) d T)
    have hmax : T.N ≤ 16384 := dk.max.1
    refine Sorted_spec (f := fun x : Sc × Txt => x.1.v) (m := r.ps) n2.rd (map_fr X.map n2.fr fun x => x) (by omega) (fun p hp => ?_) fun a c h3 f3 s => ⟨_, _, _, rfl, ?_⟩
    · have := X.pk (p.1, p.2.2) (by rw [X.put]; exact List.mem_map.mpr ⟨p, hp, rfl⟩)
      simp only at this
      omega
    · have e : T.written = sortZ (r.ps.map (·.1)) := by
        unfold TM.written
        rw [X.put, List.map_map]; rfl
      rw [← e] at s
      exact hK a _ c h3 (n2.fr.no f3) elen.symm (s.mono fun b hb => Nat.le_trans n2.fr.size hb)
  · refine txn_Txn_Written.ok (os ⟨_, rda X.cell rfl, ct rfl ?_⟩)
    have e1 := X.gone.1
    have e : T.written = [] := by unfold TM.written; rw [e1]; exact List.mergeSort_nil
    have hK := hK none 0 0 h (Fr.refl _ _) (by rw [e1]; rfl)
    rw [e] at hK
    exact hK (Sl.nil _ _ _)
end Go.Proofs.YtpleolmalbdpnaaDoor.Tm
