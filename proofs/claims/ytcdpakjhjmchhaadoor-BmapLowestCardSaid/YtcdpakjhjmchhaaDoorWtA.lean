import Derived.Shelf.SlIterI.Sorted
import Derived.Shelf.SortM.Plain
import Derived.Shelf.SortM.SortNone
import Derived.Test.YtcdpakjhjmchhaaDoorProg
import Derived.Test.YtcdpakjhjmchhaaDoorTmC
/-
  LAID: maps.Keys, slices.Sorted and slices.Sort, by the shelf.
-/
namespace Go.Proofs
open Go Go.Shelf
def Tryd.keysA_ren : Go.Shelf.Ren := ⟨fun | 7 => 113 | 10 => 137 | n => n, fun | 23 => 149 | 26 => 3 | 3 => 72 | 28 => 184 | 0 => 0 | 27 => 183 | 33 => 191 | 4 => 4 | n => n, fun n => n⟩
theorem Tryd.keysA : SlLaysZI.n7 Tryd.prog Tryd.keysA_ren where
  mixed := by kernel_rfl
  f7 := ⟨ "maps.Keys[map[int][]byte,int,[]byte]", by decide, Tryd.func113.trans (congrArg some (by kernel_rfl))⟩
  f10 := ⟨ "maps.Keys[map[int][]byte,int,[]byte]$1", by decide, Tryd.func137.trans (congrArg some (by kernel_rfl))⟩
  t0 := Tryd.underlying0
  a0 := Tryd.isAgg0
  z0 := Tryd.sizeOf0
  v0 := Tryd.zeroValue0
  t4 := Tryd.underlying4
  a4 := Tryd.isAgg4
  z4 := Tryd.sizeOf4
  v4 := Tryd.zeroValue4
  t23 := Tryd.underlying149
  a23 := Tryd.isAgg149
  z23 := Tryd.sizeOf149
  v23 := Tryd.zeroValue149
  t26 := Tryd.underlying3
  a26 := Tryd.isAgg3
  z26 := Tryd.sizeOf3
  v26 := Tryd.zeroValue3
  t27 := Tryd.underlying183
  a27 := Tryd.isAgg183
  z27 := Tryd.sizeOf183
  v27 := Tryd.zeroValue183
  t28 := Tryd.underlying184
  a28 := Tryd.isAgg184
  z28 := Tryd.sizeOf184
  v28 := Tryd.zeroValue184
  t33 := Tryd.underlying191
  a33 := Tryd.isAgg191
  z33 := Tryd.sizeOf191
  v33 := Tryd.zeroValue191
def Tryd.sortedA_ren : Go.Shelf.Ren := ⟨fun | 6 => 112 | 8 => 135 | 9 => 136 | 11 => 142 | 13 => 144 | 12 => 143 | 23 => 155 | 24 => 156 | 14 => 146 | 15 => 147 | 16 => 148 | 17 => 149 | 18 => 150 | 19 => 151 | 20 => 152 | 21 => 153 | 22 => 154 | 25 => 157 | 26 => 158 | 27 => 159 | 28 => 160 | 29 => 161 | 30 => 162 | 31 => 163 | n => n, fun | 26 => 3 | 28 => 184 | 24 => 22 | 0 => 0 | 3 => 3 | 37 => 88 | 48 => 215 | 50 => 168 | 4 => 4 | 40 => 209 | 39 => 208 | 45 => 103 | 5 => 5 | 9 => 9 | 51 => 217 | 55 => 165 | 57 => 222 | 58 => 132 | 33 => 191 | n => n, fun n => n⟩
theorem Tryd.sortedA : SlLaysZI.n6 Tryd.prog Tryd.sortedA_ren where
  mixed := by kernel_rfl
  f6 := ⟨ "slices.Sorted[int]", by decide, Tryd.func112.trans (congrArg some (by kernel_rfl))⟩
  f8 := ⟨ "slices.Collect[int]", by decide, Tryd.func135.trans (congrArg some (by kernel_rfl))⟩
  f11 := ⟨ "slices.AppendSeq[[]int,int]", by decide, Tryd.func142.trans (congrArg some (by kernel_rfl))⟩
  t0 := Tryd.underlying0
  a0 := Tryd.isAgg0
  z0 := Tryd.sizeOf0
  v0 := Tryd.zeroValue0
  t24 := Tryd.underlying22
  a24 := Tryd.isAgg22
  z24 := Tryd.sizeOf22
  v24 := Tryd.zeroValue22
  t26 := Tryd.underlying3
  a26 := Tryd.isAgg3
  z26 := Tryd.sizeOf3
  v26 := Tryd.zeroValue3
  t28 := Tryd.underlying184
  a28 := Tryd.isAgg184
  z28 := Tryd.sizeOf184
  v28 := Tryd.zeroValue184
  i26 := by kernel_rfl
def Tryd.sortA_ren : Go.Shelf.Ren := ⟨fun | 5 => 136 | 8 => 144 | 7 => 143 | 19 => 155 | 20 => 156 | 10 => 146 | 11 => 147 | 12 => 148 | 13 => 149 | 14 => 150 | 15 => 151 | 16 => 152 | 17 => 153 | 18 => 154 | 30 => 157 | 31 => 158 | 32 => 159 | 33 => 160 | 34 => 161 | 35 => 162 | 40 => 163 | n => n, fun | 23 => 22 | 25 => 3 | 3 => 3 | 32 => 88 | 22 => 22 | 0 => 0 | 44 => 215 | 46 => 168 | 4 => 4 | 36 => 209 | 35 => 208 | 41 => 103 | 5 => 5 | 9 => 9 | 53 => 217 | 57 => 165 | 63 => 222 | 64 => 132 | n => n, fun n => n⟩
theorem Tryd.sortA : SlLaysM.n5 Tryd.prog Tryd.sortA_ren where
  mixed := by kernel_rfl
  f5 := ⟨ "slices.Sort[[]int,int]", by decide, Tryd.func136.trans (congrArg some (by kernel_rfl))⟩
  f7 := ⟨ "slices.pdqsortOrdered[int]", by decide, Tryd.func143.trans (congrArg some (by kernel_rfl))⟩
  f8 := Tryd.func144.trans (congrArg some (by kernel_rfl))
  f10 := ⟨ "slices.insertionSortOrdered[int]", by decide, Tryd.func146.trans (congrArg some (by kernel_rfl))⟩
  f11 := ⟨ "slices.heapSortOrdered[int]", by decide, Tryd.func147.trans (congrArg some (by kernel_rfl))⟩
  f12 := ⟨ "slices.breakPatternsOrdered[int]", by decide, Tryd.func148.trans (congrArg some (by kernel_rfl))⟩
  f13 := ⟨ "slices.choosePivotOrdered[int]", by decide, Tryd.func149.trans (congrArg some (by kernel_rfl))⟩
  f14 := ⟨ "slices.reverseRangeOrdered[int]", by decide, Tryd.func150.trans (congrArg some (by kernel_rfl))⟩
  f15 := ⟨ "slices.partialInsertionSortOrdered[int]", by decide, Tryd.func151.trans (congrArg some (by kernel_rfl))⟩
  f16 := ⟨ "cmp.Less[int]", by decide, Tryd.func152.trans (congrArg some (by kernel_rfl))⟩
  f17 := ⟨ "slices.partitionEqualOrdered[int]", by decide, Tryd.func153.trans (congrArg some (by kernel_rfl))⟩
  f18 := ⟨ "slices.partitionOrdered[int]", by decide, Tryd.func154.trans (congrArg some (by kernel_rfl))⟩
  f19 := Tryd.func155.trans (congrArg some (by kernel_rfl))
  f20 := Tryd.func156.trans (congrArg some (by kernel_rfl))
  f30 := ⟨ "slices.siftDownOrdered[int]", by decide, Tryd.func157.trans (congrArg some (by kernel_rfl))⟩
  f31 := Tryd.func158.trans (congrArg some (by kernel_rfl))
  f32 := Tryd.func159.trans (congrArg some (by kernel_rfl))
  f33 := ⟨ "slices.medianAdjacentOrdered[int]", by decide, Tryd.func160.trans (congrArg some (by kernel_rfl))⟩
  f34 := ⟨ "slices.medianOrdered[int]", by decide, Tryd.func161.trans (congrArg some (by kernel_rfl))⟩
  f35 := ⟨ "cmp.isNaN[int]", by decide, Tryd.func162.trans (congrArg some (by kernel_rfl))⟩
  f40 := ⟨ "slices.order2Ordered[int]", by decide, Tryd.func163.trans (congrArg some (by kernel_rfl))⟩
  t0 := Tryd.underlying0
  a0 := Tryd.isAgg0
  z0 := Tryd.sizeOf0
  v0 := Tryd.zeroValue0
  t3 := Tryd.underlying3
  a3 := Tryd.isAgg3
  z3 := Tryd.sizeOf3
  v3 := Tryd.zeroValue3
  t4 := Tryd.underlying4
  a4 := Tryd.isAgg4
  z4 := Tryd.sizeOf4
  v4 := Tryd.zeroValue4
  t5 := Tryd.underlying5
  a5 := Tryd.isAgg5
  z5 := Tryd.sizeOf5
  v5 := Tryd.zeroValue5
  t9 := Tryd.underlying9
  a9 := Tryd.isAgg9
  z9 := Tryd.sizeOf9
  v9 := Tryd.zeroValue9
  t22 := Tryd.underlying22
  a22 := Tryd.isAgg22
  z22 := Tryd.sizeOf22
  v22 := Tryd.zeroValue22
  t23 := Tryd.underlying22
  a23 := Tryd.isAgg22
  z23 := Tryd.sizeOf22
  v23 := Tryd.zeroValue22
  t25 := Tryd.underlying3
  a25 := Tryd.isAgg3
  z25 := Tryd.sizeOf3
  v25 := Tryd.zeroValue3
  t32 := Tryd.underlying88
  a32 := Tryd.isAgg88
  z32 := Tryd.sizeOf88
  v32 := Tryd.zeroValue88
  t35 := Tryd.underlying208
  a35 := Tryd.isAgg208
  z35 := Tryd.sizeOf208
  v35 := Tryd.zeroValue208
  t36 := Tryd.underlying209
  a36 := Tryd.isAgg209
  z36 := Tryd.sizeOf209
  v36 := Tryd.zeroValue209
  t41 := Tryd.underlying103
  a41 := Tryd.isAgg103
  z41 := Tryd.sizeOf103
  v41 := Tryd.zeroValue103
  t44 := Tryd.underlying215
  a44 := Tryd.isAgg215
  z44 := Tryd.sizeOf215
  v44 := Tryd.zeroValue215
  t46 := Tryd.underlying168
  a46 := Tryd.isAgg168
  z46 := Tryd.sizeOf168
  v46 := Tryd.zeroValue168
  t53 := Tryd.underlying217
  a53 := Tryd.isAgg217
  z53 := Tryd.sizeOf217
  v53 := Tryd.zeroValue217
  t57 := Tryd.underlying165
  a57 := Tryd.isAgg165
  z57 := Tryd.sizeOf165
  v57 := Tryd.zeroValue165
  t63 := Tryd.underlying222
  a63 := Tryd.isAgg222
  z63 := Tryd.sizeOf222
  v63 := Tryd.zeroValue222
  t64 := Tryd.underlying132
  a64 := Tryd.isAgg132
  z64 := Tryd.sizeOf132
  v64 := Tryd.zeroValue132
end Go.Proofs
/-
  WRITTEN: the numbers of the blocks that are put, rising.
-/
namespace Go.Proofs.YtcdpakjhjmchhaaDoor.Tm
open Go Go.Proofs Go.Proofs.YtcdpakjhjmchhaaDoor.Wx Go.Proofs.YtcdpakjhjmchhaaDoor.Hp Go.Proofs.YtcdpakjhjmchhaaDoor.W Go.Proofs.YtcdpakjhjmchhaaDoor.Ad

theorem insert_perm {H : Type} (x : Lit × DataW H) : ∀ l : List (Lit × DataW H), (DataW.insert x l).Perm (x :: l)
  | [] => List.Perm.refl _
  | y :: r => by
    show (if x.1.before y.1 then x :: y :: r else y :: DataW.insert x r).Perm _
    split
    · exact List.Perm.refl _
    · exact ((insert_perm x r).cons y).trans (List.Perm.swap x y r)
theorem foldr_perm {H : Type} : ∀ l : List (Lit × DataW H), (l.foldr DataW.insert []).Perm l
  | [] => List.Perm.refl _
  | x :: r => (insert_perm x _).trans ((foldr_perm r).cons x)
/-- whatever stands there reads as nothing -/
def anyR : Value → Option (DataW Unit × List MemPlace) := fun _ => some (.nil, [])
def valI : Value → Int
  | .int _ n => n
  | _ => 0
def sortZ (l : List Int) : List Int := l.mergeSort fun x y => decide (x ≤ y)
theorem Sorted_spec {α : Type} {f : α → Value} {h : Heap} {bx mb : Nat} {m : List (Int × α)} {K : Value → Heap → Prop} (hbx : rd h bx = [.map (some mb)]) (M : MapAt DI h mb (mm f m)) (hm : m.length ≤ 1000000) (hr : ∀ p ∈ m, -9223372036854775808 ≤ p.1 ∧ p.1 ≤ 9223372036854775807)
    (hK : ∀ a c h', Fr No h h' → Sl h' 1 a m.length c ((sortZ (m.map (·.1))).map (.int .i64)) (From h.size) → K (.slice a m.length c) h') :
    C.slices_Sorted_int (.func (.func 137) #[] ⟨[.pointer (some ⟨bx, 0, none⟩)]⟩) h K := by
  refine ⟨⟨_, Tryd.func112, by kernel_rfl, by kernel_rfl⟩, fun w hw => ?_⟩
  subst hw
  obtain ⟨es, clock, hb, he, _, hst⟩ := M
  have hlen : es.size = m.length := by
    have := congrArg List.length he
    rw [List.length_map, List.length_map, mm_length] at this
    simpa using this
  have hkey : ∀ x ∈ es.toList, ∃ p ∈ m, x.key = .int .i64 p.1 := by
    intro x hx
    have : (x.key, x.val) ∈ es.toList.map (fun e => (e.key, e.val)) := List.mem_map.mpr ⟨x, hx, rfl⟩
    rw [he] at this
    obtain ⟨q, hq, e⟩ := List.mem_map.mp this
    obtain ⟨p, hp, rfl⟩ := List.mem_map.mp hq
    exact ⟨p, hp, (congrArg Prod.fst e).symm⟩
  have hwf : ∀ n : Int, -9223372036854775808 ≤ n ∧ n ≤ 9223372036854775807 → (Lit.int .i64 n).wf = true := fun n hn => by
    have h1 : IntKind.i64.min = -9223372036854775808 := rfl
    have h2 : IntKind.i64.max = 9223372036854775807 := rfl
    simp only [Lit.wf, Bool.and_eq_true, decide_eq_true_eq]
    omega
  have hread : ∀ n : Int, -9223372036854775808 ≤ n ∧ n ≤ 9223372036854775807 → ∀ x : MapEntry, x.key = .int .i64 n → WideElems.rd Tryd.prog 3 anyR x = some (.int .i64 n, .nil) := fun n hn x hx => by
    have h1 : keyOf Tryd.prog 3 x.key = some (.int .i64 n) := by
      rw [hx]
      simp [keyOf, mapKey, Tryd.underlying3, hwf n hn]
    simp [WideElems.rd, h1, anyR]
  have fit : WideElems.Fit Tryd.prog 3 anyR es clock := ⟨by rw [hlen]; exact Nat.le_trans hm (by decide), hst, fun x hx => by
    obtain ⟨p, hp, e⟩ := hkey x hx
    exact ⟨_, hread p.1 (hr p hp) x e⟩⟩
  have hown : w.ownsMap Tryd.prog 3 anyR mb m.length (.map ((es.toList.map (WideElems.rg Tryd.prog 3 anyR)).foldr DataW.insert [])) := ⟨es, clock, hb, fit, by omega, rfl⟩
  have hperm : (intKeys (H := Unit) (.map ((es.toList.map (WideElems.rg Tryd.prog 3 anyR)).foldr DataW.insert []))).Perm (m.map (·.1)) := by
    refine List.Perm.trans (l₂ := (es.toList.map (WideElems.rg Tryd.prog 3 anyR)).map fun p : Lit × DataW Unit => Go.intOf p.1) ((foldr_perm _).map _) ?_
    rw [List.map_map]
    have e1 : es.toList.map ((fun p : Lit × DataW Unit => Go.intOf p.1) ∘ WideElems.rg Tryd.prog 3 anyR) = m.map (·.1) := by
      have e2 : es.toList.map (fun x => x.key) = m.map fun p => (.int .i64 p.1 : Value) := by
        have := congrArg (List.map Prod.fst) he
        rw [List.map_map, List.map_map] at this
        rw [show (es.toList.map fun x => x.key) = es.toList.map (Prod.fst ∘ fun e => (e.key, e.val)) from rfl, this]
        rw [mm, List.map_map]; rfl
      have e3 : es.toList.map ((fun p : Lit × DataW Unit => Go.intOf p.1) ∘ WideElems.rg Tryd.prog 3 anyR) = (es.toList.map (fun x => x.key)).map valI := by
        rw [List.map_map]
        refine List.map_congr_left fun x hx => ?_
        obtain ⟨p, hp, e⟩ := hkey x hx
        have h1 := WideElems.rg_of (hread p.1 (hr p hp) x e)
        rw [Function.comp_apply, Function.comp_apply, h1, e]
        rfl
      rw [e3, e2, List.map_map]; rfl
    rw [e1]
  have hbl : bx < w.heap.size := rd_lt (o := 0) (v := .map (some mb)) (by rw [hbx]; rfl)
  have hsz : Maps.size (.map ((es.toList.map (WideElems.rg Tryd.prog 3 anyR)).foldr DataW.insert []) : DataW Unit) = m.length := by
    have := hperm.length_eq
    rw [List.length_map] at this
    rw [← this]
    show _ = (List.map _ _).length
    rw [List.length_map]; rfl
  have hc : w.cell? ⟨bx, 0, none⟩ = some (.map (some mb)) := rdc hbx rfl
  have hseq : SeqGives Fence.wide 2 Tryd.prog 137 #[.pointer (some ⟨bx, 0, none⟩)] encZ (fun ss => ss.Perm (intKeys (H := Unit) (.map ((es.toList.map (WideElems.rg Tryd.prog 3 anyR)).foldr DataW.insert [])))) (Maps.size (.map ((es.toList.map (WideElems.rg Tryd.prog 3 anyR)).foldr DataW.insert []) : DataW Unit)) w :=
    AnyZI.keys_gives (ρ := Tryd.keysA_ren) { Tryd.keysA with } Fence.wide _ trivial rfl (by omega) bx mb m.length _ _ hbl hc hown
  have sorts : ∀ k, AnyZI.SortsIn Tryd.prog Tryd.sortedA_ren Fence.wide k := fun k =>
    ⟨fun blk off cap ss W hH hblk hsz => callsIn_wide.2 (AnyM.slices_Sort_int Tryd.sortA blk off cap ss W hH hblk hsz),
     fun p cap W => callsIn_wide.2 (AnyM.slices_Sort_int_none Tryd.sortA p cap W)⟩
  have cS := AnyZI.sorted_in Tryd.sortedA Fence.wide 5 trivial trivial trivial trivial rfl (by omega) (sorts _) (enters_of Tryd.func136 (by kernel_rfl) rfl) 137 #[.pointer (some ⟨bx, 0, none⟩)] trivial (enters_of Tryd.func137 (by kernel_rfl) rfl) _ _ (by rw [hsz]; exact Nat.le_trans hm (by decide)) (by rw [hsz]; omega) _ hseq
  refine ((callsIn_wide (n := 5)).1 cS).mono fun e w' ⟨v, ss, he', hS, hrow, _, hbel⟩ => ?_
  have hS' : ss.Perm (m.map (·.1)) := hS.trans hperm
  have el : ss.length = m.length := by have := hS'.length_eq; rw [List.length_map] at this; exact this
  have es' : ss.mergeSort (fun x y => decide (x ≤ y)) = sortZ (m.map (·.1)) := mergeSort_of_perm_i hS'
  rw [es', el] at hrow
  have fr : Fr No w.heap w'.heap := ⟨hbel.size, fun k hk _ => hbel.block k hk⟩
  refine ⟨v, he', ⟨hbel.os, hbel.tape, hbel.output⟩, ?_⟩
  obtain ⟨hl, hrow⟩ := hrow
  rcases hrow with ⟨rfl, hz⟩ | ⟨gb, cap, cur, rfl, hbase, hgb, r1, r2, r3, r4⟩
  · rw [hz] at hK
    refine hK none 0 w'.heap fr ⟨?_, rfl, rfl⟩
    rw [hz] at hl; exact hl
  · refine hK _ cap w'.heap fr ⟨hl, rfl, hbase, ⟨_, _, _, hgb, .inl rfl⟩, r1, ?_, ?_⟩
    · have e : rd w'.heap gb = cur.toList := by unfold rd; rw [hgb]
      show ((rd w'.heap gb).drop 0).take _ = _
      rw [e, List.drop_zero, hl]; exact r4
    · have e : rd w'.heap gb = cur.toList := by unfold rd; rw [hgb]
      show 0 + cap * 1 ≤ (rd w'.heap gb).length
      rw [e, Array.length_toList, r3]; omega
def TM.written (T : TM) : List Int := sortZ (T.put.map (·.1))
theorem Written_spec {h : Heap} {F : Nat → Prop} {t d : Option Addr} {T : TM} {K : Value → Heap → Prop} (x : Tx h F t d T) (hp : T.put.length ≤ 1000000)
    (hK : ∀ a l c h', Fr No h h' → l = T.put.length → Sl h' 1 a l c (T.written.map (.int .i64)) (From h.size) → K (.slice a l c) h') : C.txn_Txn_Written t h K := by
  rcases x with ⟨col, r, rfl, X, hF⟩ | ⟨col, tb, rfl, X, hF⟩
  · have elen : T.put.length = r.ps.length := by rw [X.put, List.length_map]
    refine txn_Txn_Written.ok (os ⟨_, rda X.cell rfl, cf rfl (os ⟨_, rda X.cell rfl, ?_⟩)⟩)
    refine maps_Keys_map_int_byte_int_byte.ok (New.intro fun h2 n2 => ⟨_, rfl, ?_⟩)
    obtain ⟨D, dk, _⟩ := Tx.dk (.inl ⟨col, r, rfl, X, hF⟩ : Tx h F (some ⟨r.tb, 0, none⟩) d T)
    have hmax : T.N ≤ 16384 := dk.max.1
    refine Sorted_spec (f := fun x : Sc × Txt => x.1.v) (m := r.ps) n2.rd (map_fr X.map n2.fr fun x => x) (by omega) (fun p hp => ?_) fun a c h3 f3 s => ⟨_, _, _, rfl, ?_⟩
    · have := X.pk (p.1, p.2.2) (by rw [X.put]; exact List.mem_map.mpr ⟨p, hp, rfl⟩)
      simp only at this
      omega
    · have e : T.written = sortZ (r.ps.map (·.1)) := by
        unfold TM.written
        rw [X.put, List.map_map]; rfl
      rw [← e] at s
      exact hK a _ c h3 (n2.fr.no f3) elen.symm (s.mono fun b hb => Nat.le_trans n2.fr.size hb)
  · refine txn_Txn_Written.ok (os ⟨_, rda X.cell rfl, ct rfl ?_⟩)
    have e1 := X.gone.1
    have e : T.written = [] := by unfold TM.written; rw [e1]; exact List.mergeSort_nil
    have hK := hK none 0 0 h (Fr.refl _ _) (by rw [e1]; rfl)
    rw [e] at hK
    exact hK (Sl.nil _ _ _)
end Go.Proofs.YtcdpakjhjmchhaaDoor.Tm
