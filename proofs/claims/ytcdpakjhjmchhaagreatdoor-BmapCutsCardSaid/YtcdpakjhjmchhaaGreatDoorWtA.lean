import Derived.Shelf.SlIterI.Sorted
import Derived.Shelf.SortM.Plain
import Derived.Shelf.SortM.SortNone
import Derived.Test.YtcdpakjhjmchhaaGreatDoorProg
import Derived.Test.YtcdpakjhjmchhaaGreatDoorTmC
/-
  LAID: maps.Keys, slices.Sorted and slices.Sort, by the shelf.
-/
namespace Go.Proofs
open Go Go.Shelf
def Tryz.keysA_ren : Go.Shelf.Ren := ⟨fun | 7 => 96 | 10 => 143 | n => n, fun | 23 => 137 | 26 => 3 | 3 => 33 | 28 => 174 | 0 => 0 | 27 => 173 | 33 => 228 | 4 => 4 | n => n, fun n => n⟩
theorem Tryz.keysA : SlLaysZI.n7 Tryz.prog Tryz.keysA_ren where
  mixed := by kernel_rfl
  f7 := ⟨ "maps.Keys[map[int][]byte,int,[]byte]", by decide, Tryz.func96.trans (congrArg some (by kernel_rfl))⟩
  f10 := ⟨ "maps.Keys[map[int][]byte,int,[]byte]$1", by decide, Tryz.func143.trans (congrArg some (by kernel_rfl))⟩
  t0 := Tryz.underlying0
  a0 := Tryz.isAgg0
  z0 := Tryz.sizeOf0
  v0 := Tryz.zeroValue0
  t4 := Tryz.underlying4
  a4 := Tryz.isAgg4
  z4 := Tryz.sizeOf4
  v4 := Tryz.zeroValue4
  t23 := Tryz.underlying137
  a23 := Tryz.isAgg137
  z23 := Tryz.sizeOf137
  v23 := Tryz.zeroValue137
  t26 := Tryz.underlying3
  a26 := Tryz.isAgg3
  z26 := Tryz.sizeOf3
  v26 := Tryz.zeroValue3
  t27 := Tryz.underlying173
  a27 := Tryz.isAgg173
  z27 := Tryz.sizeOf173
  v27 := Tryz.zeroValue173
  t28 := Tryz.underlying174
  a28 := Tryz.isAgg174
  z28 := Tryz.sizeOf174
  v28 := Tryz.zeroValue174
  t33 := Tryz.underlying228
  a33 := Tryz.isAgg228
  z33 := Tryz.sizeOf228
  v33 := Tryz.zeroValue228
def Tryz.sortedA_ren : Go.Shelf.Ren := ⟨fun | 6 => 95 | 8 => 141 | 9 => 142 | 11 => 164 | 13 => 166 | 12 => 165 | 23 => 180 | 24 => 181 | 14 => 171 | 15 => 172 | 16 => 173 | 17 => 174 | 18 => 175 | 19 => 176 | 20 => 177 | 21 => 178 | 22 => 179 | 25 => 183 | 26 => 184 | 27 => 185 | 28 => 186 | 29 => 187 | 30 => 188 | 31 => 189 | n => n, fun | 26 => 3 | 28 => 174 | 24 => 22 | 0 => 0 | 3 => 3 | 37 => 71 | 48 => 262 | 50 => 215 | 4 => 4 | 40 => 256 | 39 => 255 | 45 => 78 | 5 => 5 | 9 => 9 | 51 => 265 | 55 => 212 | 57 => 270 | 58 => 271 | 33 => 228 | n => n, fun n => n⟩
theorem Tryz.sortedA : SlLaysZI.n6 Tryz.prog Tryz.sortedA_ren where
  mixed := by kernel_rfl
  f6 := ⟨ "slices.Sorted[int]", by decide, Tryz.func95.trans (congrArg some (by kernel_rfl))⟩
  f8 := ⟨ "slices.Collect[int]", by decide, Tryz.func141.trans (congrArg some (by kernel_rfl))⟩
  f11 := ⟨ "slices.AppendSeq[[]int,int]", by decide, Tryz.func164.trans (congrArg some (by kernel_rfl))⟩
  t0 := Tryz.underlying0
  a0 := Tryz.isAgg0
  z0 := Tryz.sizeOf0
  v0 := Tryz.zeroValue0
  t24 := Tryz.underlying22
  a24 := Tryz.isAgg22
  z24 := Tryz.sizeOf22
  v24 := Tryz.zeroValue22
  t26 := Tryz.underlying3
  a26 := Tryz.isAgg3
  z26 := Tryz.sizeOf3
  v26 := Tryz.zeroValue3
  t28 := Tryz.underlying174
  a28 := Tryz.isAgg174
  z28 := Tryz.sizeOf174
  v28 := Tryz.zeroValue174
  i26 := by kernel_rfl
def Tryz.sortA_ren : Go.Shelf.Ren := ⟨fun | 5 => 142 | 8 => 166 | 7 => 165 | 19 => 180 | 20 => 181 | 10 => 171 | 11 => 172 | 12 => 173 | 13 => 174 | 14 => 175 | 15 => 176 | 16 => 177 | 17 => 178 | 18 => 179 | 30 => 183 | 31 => 184 | 32 => 185 | 33 => 186 | 34 => 187 | 35 => 188 | 40 => 189 | n => n, fun | 23 => 22 | 25 => 3 | 3 => 3 | 32 => 71 | 22 => 22 | 0 => 0 | 44 => 262 | 46 => 215 | 4 => 4 | 36 => 256 | 35 => 255 | 41 => 78 | 5 => 5 | 9 => 9 | 53 => 265 | 57 => 212 | 63 => 270 | 64 => 271 | n => n, fun n => n⟩
theorem Tryz.sortA : SlLaysM.n5 Tryz.prog Tryz.sortA_ren where
  mixed := by kernel_rfl
  f5 := ⟨ "slices.Sort[[]int,int]", by decide, Tryz.func142.trans (congrArg some (by kernel_rfl))⟩
  f7 := ⟨ "slices.pdqsortOrdered[int]", by decide, Tryz.func165.trans (congrArg some (by kernel_rfl))⟩
  f8 := Tryz.func166.trans (congrArg some (by kernel_rfl))
  f10 := ⟨ "slices.insertionSortOrdered[int]", by decide, Tryz.func171.trans (congrArg some (by kernel_rfl))⟩
  f11 := ⟨ "slices.heapSortOrdered[int]", by decide, Tryz.func172.trans (congrArg some (by kernel_rfl))⟩
  f12 := ⟨ "slices.breakPatternsOrdered[int]", by decide, Tryz.func173.trans (congrArg some (by kernel_rfl))⟩
  f13 := ⟨ "slices.choosePivotOrdered[int]", by decide, Tryz.func174.trans (congrArg some (by kernel_rfl))⟩
  f14 := ⟨ "slices.reverseRangeOrdered[int]", by decide, Tryz.func175.trans (congrArg some (by kernel_rfl))⟩
  f15 := ⟨ "slices.partialInsertionSortOrdered[int]", by decide, Tryz.func176.trans (congrArg some (by kernel_rfl))⟩
  f16 := ⟨ "cmp.Less[int]", by decide, Tryz.func177.trans (congrArg some (by kernel_rfl))⟩
  f17 := ⟨ "slices.partitionEqualOrdered[int]", by decide, Tryz.func178.trans (congrArg some (by kernel_rfl))⟩
  f18 := ⟨ "slices.partitionOrdered[int]", by decide, Tryz.func179.trans (congrArg some (by kernel_rfl))⟩
  f19 := Tryz.func180.trans (congrArg some (by kernel_rfl))
  f20 := Tryz.func181.trans (congrArg some (by kernel_rfl))
  f30 := ⟨ "slices.siftDownOrdered[int]", by decide, Tryz.func183.trans (congrArg some (by kernel_rfl))⟩
  f31 := Tryz.func184.trans (congrArg some (by kernel_rfl))
  f32 := Tryz.func185.trans (congrArg some (by kernel_rfl))
  f33 := ⟨ "slices.medianAdjacentOrdered[int]", by decide, Tryz.func186.trans (congrArg some (by kernel_rfl))⟩
  f34 := ⟨ "slices.medianOrdered[int]", by decide, Tryz.func187.trans (congrArg some (by kernel_rfl))⟩
  f35 := ⟨ "cmp.isNaN[int]", by decide, Tryz.func188.trans (congrArg some (by kernel_rfl))⟩
  f40 := ⟨ "slices.order2Ordered[int]", by decide, Tryz.func189.trans (congrArg some (by kernel_rfl))⟩
  t0 := Tryz.underlying0
  a0 := Tryz.isAgg0
  z0 := Tryz.sizeOf0
  v0 := Tryz.zeroValue0
  t3 := Tryz.underlying3
  a3 := Tryz.isAgg3
  z3 := Tryz.sizeOf3
  v3 := Tryz.zeroValue3
  t4 := Tryz.underlying4
  a4 := Tryz.isAgg4
  z4 := Tryz.sizeOf4
  v4 := Tryz.zeroValue4
  t5 := Tryz.underlying5
  a5 := Tryz.isAgg5
  z5 := Tryz.sizeOf5
  v5 := Tryz.zeroValue5
  t9 := Tryz.underlying9
  a9 := Tryz.isAgg9
  z9 := Tryz.sizeOf9
  v9 := Tryz.zeroValue9
  t22 := Tryz.underlying22
  a22 := Tryz.isAgg22
  z22 := Tryz.sizeOf22
  v22 := Tryz.zeroValue22
  t23 := Tryz.underlying22
  a23 := Tryz.isAgg22
  z23 := Tryz.sizeOf22
  v23 := Tryz.zeroValue22
  t25 := Tryz.underlying3
  a25 := Tryz.isAgg3
  z25 := Tryz.sizeOf3
  v25 := Tryz.zeroValue3
  t32 := Tryz.underlying71
  a32 := Tryz.isAgg71
  z32 := Tryz.sizeOf71
  v32 := Tryz.zeroValue71
  t35 := Tryz.underlying255
  a35 := Tryz.isAgg255
  z35 := Tryz.sizeOf255
  v35 := Tryz.zeroValue255
  t36 := Tryz.underlying256
  a36 := Tryz.isAgg256
  z36 := Tryz.sizeOf256
  v36 := Tryz.zeroValue256
  t41 := Tryz.underlying78
  a41 := Tryz.isAgg78
  z41 := Tryz.sizeOf78
  v41 := Tryz.zeroValue78
  t44 := Tryz.underlying262
  a44 := Tryz.isAgg262
  z44 := Tryz.sizeOf262
  v44 := Tryz.zeroValue262
  t46 := Tryz.underlying215
  a46 := Tryz.isAgg215
  z46 := Tryz.sizeOf215
  v46 := Tryz.zeroValue215
  t53 := Tryz.underlying265
  a53 := Tryz.isAgg265
  z53 := Tryz.sizeOf265
  v53 := Tryz.zeroValue265
  t57 := Tryz.underlying212
  a57 := Tryz.isAgg212
  z57 := Tryz.sizeOf212
  v57 := Tryz.zeroValue212
  t63 := Tryz.underlying270
  a63 := Tryz.isAgg270
  z63 := Tryz.sizeOf270
  v63 := Tryz.zeroValue270
  t64 := Tryz.underlying271
  a64 := Tryz.isAgg271
  z64 := Tryz.sizeOf271
  v64 := Tryz.zeroValue271
end Go.Proofs
/-
  WRITTEN: the numbers of the blocks that are put, rising.
-/
namespace Go.Proofs.YtcdpakjhjmchhaaGreatDoor.Tm
open Go Go.Proofs Go.Proofs.YtcdpakjhjmchhaaGreatDoor.Wx Go.Proofs.YtcdpakjhjmchhaaGreatDoor.Hp Go.Proofs.YtcdpakjhjmchhaaGreatDoor.W Go.Proofs.YtcdpakjhjmchhaaGreatDoor.Ad

theorem insert_perm {H : Type} (x : Lit × DataW H) : ∀ l : List (Lit × DataW H), (DataW.insert x l).Perm (x :: l)
  | [] => List.Perm.refl _
  | y :: r => by
    show (if x.1.before y.1 then x :: y :: r else y :: DataW.insert x r).Perm _
    split
    · exact List.Perm.refl _
    · exact ((insert_perm x r).cons y).trans (List.Perm.swap x y r)
theorem foldr_perm {H : Type} : ∀ l : List (Lit × DataW H), (l.foldr DataW.insert []).Perm l
  | [] => List.Perm.refl _
  | x :: r => (insert_perm x _).trans ((foldr_perm r).cons x)
/-- whatever stands there reads as nothing -/
def anyR : Value → Option (DataW Unit × List MemPlace) := fun _ => some (.nil, [])
def valI : Value → Int
  | .int _ n => n
  | _ => 0
def sortZ (l : List Int) : List Int := l.mergeSort fun x y => decide (x ≤ y)
theorem Sorted_spec {α : Type} {f : α → Value} {h : Heap} {bx mb : Nat} {m : List (Int × α)} {K : Value → Heap → Prop} (hbx : rd h bx = [.map (some mb)]) (M : MapAt DI h mb (mm f m)) (hm : m.length ≤ 1000000) (hr : ∀ p ∈ m, -9223372036854775808 ≤ p.1 ∧ p.1 ≤ 9223372036854775807)
    (hK : ∀ a c h', Fr No h h' → Sl h' 1 a m.length c ((sortZ (m.map (·.1))).map (.int .i64)) (From h.size) → K (.slice a m.length c) h') :
    C.slices_Sorted_int (.func (.func 143) #[] ⟨[.pointer (some ⟨bx, 0, none⟩)]⟩) h K := by
  refine ⟨⟨_, Tryz.func95, by kernel_rfl, by kernel_rfl⟩, fun w hw => ?_⟩
  subst hw
  obtain ⟨es, clock, hb, he, _, hst⟩ := M
  have hlen : es.size = m.length := by
    have := congrArg List.length he
    rw [List.length_map, List.length_map, mm_length] at this
    simpa using this
  have hkey : ∀ x ∈ es.toList, ∃ p ∈ m, x.key = .int .i64 p.1 := by
    intro x hx
    have : (x.key, x.val) ∈ es.toList.map (fun e => (e.key, e.val)) := List.mem_map.mpr ⟨x, hx, rfl⟩
    rw [he] at this
    obtain ⟨q, hq, e⟩ := List.mem_map.mp this
    obtain ⟨p, hp, rfl⟩ := List.mem_map.mp hq
    exact ⟨p, hp, (congrArg Prod.fst e).symm⟩
  have hwf : ∀ n : Int, -9223372036854775808 ≤ n ∧ n ≤ 9223372036854775807 → (Lit.int .i64 n).wf = true := fun n hn => by
    have h1 : IntKind.i64.min = -9223372036854775808 := rfl
    have h2 : IntKind.i64.max = 9223372036854775807 := rfl
    simp only [Lit.wf, Bool.and_eq_true, decide_eq_true_eq]
    omega
  have hread : ∀ n : Int, -9223372036854775808 ≤ n ∧ n ≤ 9223372036854775807 → ∀ x : MapEntry, x.key = .int .i64 n → WideElems.rd Tryz.prog 3 anyR x = some (.int .i64 n, .nil) := fun n hn x hx => by
    have h1 : keyOf Tryz.prog 3 x.key = some (.int .i64 n) := by
      rw [hx]
      simp [keyOf, mapKey, Tryz.underlying3, hwf n hn]
    simp [WideElems.rd, h1, anyR]
  have fit : WideElems.Fit Tryz.prog 3 anyR es clock := ⟨by rw [hlen]; exact Nat.le_trans hm (by decide), hst, fun x hx => by
    obtain ⟨p, hp, e⟩ := hkey x hx
    exact ⟨_, hread p.1 (hr p hp) x e⟩⟩
  have hown : w.ownsMap Tryz.prog 3 anyR mb m.length (.map ((es.toList.map (WideElems.rg Tryz.prog 3 anyR)).foldr DataW.insert [])) := ⟨es, clock, hb, fit, by omega, rfl⟩
  have hperm : (intKeys (H := Unit) (.map ((es.toList.map (WideElems.rg Tryz.prog 3 anyR)).foldr DataW.insert []))).Perm (m.map (·.1)) := by
    refine List.Perm.trans (l₂ := (es.toList.map (WideElems.rg Tryz.prog 3 anyR)).map fun p : Lit × DataW Unit => Go.intOf p.1) ((foldr_perm _).map _) ?_
    rw [List.map_map]
    have e1 : es.toList.map ((fun p : Lit × DataW Unit => Go.intOf p.1) ∘ WideElems.rg Tryz.prog 3 anyR) = m.map (·.1) := by
      have e2 : es.toList.map (fun x => x.key) = m.map fun p => (.int .i64 p.1 : Value) := by
        have := congrArg (List.map Prod.fst) he
        rw [List.map_map, List.map_map] at this
        rw [show (es.toList.map fun x => x.key) = es.toList.map (Prod.fst ∘ fun e => (e.key, e.val)) from rfl, this]
        rw [mm, List.map_map]; rfl
      have e3 : es.toList.map ((fun p : Lit × DataW Unit => Go.intOf p.1) ∘ WideElems.rg Tryz.prog 3 anyR) = (es.toList.map (fun x => x.key)).map valI := by
        rw [List.map_map]
        refine List.map_congr_left fun x hx => ?_
        obtain ⟨p, hp, e⟩ := hkey x hx
        have h1 := WideElems.rg_of (hread p.1 (hr p hp) x e)
        rw [Function.comp_apply, Function.comp_apply, h1, e]
        rfl
      rw [e3, e2, List.map_map]; rfl
    rw [e1]
  have hbl : bx < w.heap.size := rd_lt (o := 0) (v := .map (some mb)) (by rw [hbx]; rfl)
  have hsz : Maps.size (.map ((es.toList.map (WideElems.rg Tryz.prog 3 anyR)).foldr DataW.insert []) : DataW Unit) = m.length := by
    have := hperm.length_eq
    rw [List.length_map] at this
    rw [← this]
    show _ = (List.map _ _).length
    rw [List.length_map]; rfl
  have hc : w.cell? ⟨bx, 0, none⟩ = some (.map (some mb)) := rdc hbx rfl
  have hseq : SeqGives Fence.wide 2 Tryz.prog 143 #[.pointer (some ⟨bx, 0, none⟩)] encZ (fun ss => ss.Perm (intKeys (H := Unit) (.map ((es.toList.map (WideElems.rg Tryz.prog 3 anyR)).foldr DataW.insert [])))) (Maps.size (.map ((es.toList.map (WideElems.rg Tryz.prog 3 anyR)).foldr DataW.insert []) : DataW Unit)) w :=
    AnyZI.keys_gives (ρ := Tryz.keysA_ren) { Tryz.keysA with } Fence.wide _ trivial rfl (by omega) bx mb m.length _ _ hbl hc hown
  have sorts : ∀ k, AnyZI.SortsIn Tryz.prog Tryz.sortedA_ren Fence.wide k := fun k =>
    ⟨fun blk off cap ss W hH hblk hsz => callsIn_wide.2 (AnyM.slices_Sort_int Tryz.sortA blk off cap ss W hH hblk hsz),
     fun p cap W => callsIn_wide.2 (AnyM.slices_Sort_int_none Tryz.sortA p cap W)⟩
  have cS := AnyZI.sorted_in Tryz.sortedA Fence.wide 5 trivial trivial trivial trivial rfl (by omega) (sorts _) (enters_of Tryz.func142 (by kernel_rfl) rfl) 143 #[.pointer (some ⟨bx, 0, none⟩)] trivial (enters_of Tryz.func143 (by kernel_rfl) rfl) _ _ (by rw [hsz]; exact Nat.le_trans hm (by decide)) (by rw [hsz]; omega) _ hseq
  refine ((callsIn_wide (n := 5)).1 cS).mono fun e w' ⟨v, ss, he', hS, hrow, _, hbel⟩ => ?_
  have hS' : ss.Perm (m.map (·.1)) := hS.trans hperm
  have el : ss.length = m.length := by have := hS'.length_eq; rw [List.length_map] at this; exact this
  have es' : ss.mergeSort (fun x y => decide (x ≤ y)) = sortZ (m.map (·.1)) := mergeSort_of_perm_i hS'
  rw [es', el] at hrow
  have fr : Fr No w.heap w'.heap := ⟨hbel.size, fun k hk _ => hbel.block k hk⟩
  refine ⟨v, he', ⟨hbel.os, hbel.tape, hbel.output⟩, ?_⟩
  obtain ⟨hl, hrow⟩ := hrow
  rcases hrow with ⟨rfl, hz⟩ | ⟨gb, cap, cur, rfl, hbase, hgb, r1, r2, r3, r4⟩
  · rw [hz] at hK
    refine hK none 0 w'.heap fr ⟨?_, rfl, rfl⟩
    rw [hz] at hl; exact hl
  · refine hK _ cap w'.heap fr ⟨hl, rfl, hbase, ⟨_, _, _, hgb, .inl rfl⟩, r1, ?_, ?_⟩
    · have e : rd w'.heap gb = cur.toList := by unfold rd; rw [hgb]
      show ((rd w'.heap gb).drop 0).take _ = _
      rw [e, List.drop_zero, hl]; exact r4
    · have e : rd w'.heap gb = cur.toList := by unfold rd; rw [hgb]
      show 0 + cap * 1 ≤ (rd w'.heap gb).length
      rw [e, Array.length_toList, r3]; omega
def TM.written (T : TM) : List Int := sortZ (T.put.map (·.1))
theorem Written_spec {h : Heap} {F : Nat → Prop} {t d : Option Addr} {T : TM} {K : Value → Heap → Prop} (x : Tx h F t d T) (hp : T.put.length ≤ 1000000)
    (hK : ∀ a l c h', Fr No h h' → l = T.put.length → Sl h' 1 a l c (T.written.map (.int .i64)) (From h.size) → K (.slice a l c) h') : C.txn_Txn_Written t h K := by
  rcases x with ⟨col, r, rfl, X, hF⟩ | ⟨col, tb, rfl, X, hF⟩
  · have elen : T.put.length = r.ps.length := by rw [X.put, List.length_map]
    refine txn_Txn_Written.ok (os ⟨_, rda X.cell rfl, cf rfl (os ⟨_, rda X.cell rfl, ?_⟩)⟩)
    refine maps_Keys_map_int_byte_int_byte.ok (New.intro fun h2 n2 => ⟨_, rfl, ?_⟩)
    obtain ⟨D, dk, _⟩ := Tx.dk (.inl ⟨col, r, rfl, X, hF⟩ : Tx h F (some ⟨r.tb, 0, none⟩) d T)
    have hmax : T.N ≤ 16384 := dk.max.1
    refine Sorted_spec (f := fun x : Sc × Txt => x.1.v) (m := r.ps) n2.rd (map_fr X.map n2.fr fun x => x) (by omega) (fun p hp => ?_) fun a c h3 f3 s => ⟨_, _, _, rfl, ?_⟩
    · have := X.pk (p.1, p.2.2) (by rw [X.put]; exact List.mem_map.mpr ⟨p, hp, rfl⟩)
      simp only at this
      omega
    · have e : T.written = sortZ (r.ps.map (·.1)) := by
        unfold TM.written
        rw [X.put, List.map_map]; rfl
      rw [← e] at s
      exact hK a _ c h3 (n2.fr.no f3) elen.symm (s.mono fun b hb => Nat.le_trans n2.fr.size hb)
  · refine txn_Txn_Written.ok (os ⟨_, rda X.cell rfl, ct rfl ?_⟩)
    have e1 := X.gone.1
    have e : T.written = [] := by unfold TM.written; rw [e1]; exact List.mergeSort_nil
    have hK := hK none 0 0 h (Fr.refl _ _) (by rw [e1]; rfl)
    rw [e] at hK
    exact hK (Sl.nil _ _ _)
end Go.Proofs.YtcdpakjhjmchhaaGreatDoor.Tm
