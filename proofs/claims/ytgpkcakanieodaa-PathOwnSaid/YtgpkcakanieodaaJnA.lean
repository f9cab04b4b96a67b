/-
  strings.Join, BY THE SHELF's CONTRACT (laid at this dump).
-/
import Derived.Shelf.Strings.OnBuilder
import Derived.Ground.NamesProg
import Derived.Test.YtgpkcakanieodaaForms
import Derived.Test.YtgpkcakanieodaaHpE
namespace Go.Proofs
open Go Go.Shelf
def Try.lays156_ren : Go.Shelf.Ren := ⟨fun | 156 => 61 | 165 => 75 | 166 => 76 | 169 => 77 | 240 => 87 | 241 => 88 | 276 => 93 | 277 => 94 | n => n, fun | 31 => 42 | 9 => 9 | 3 => 3 | 4 => 4 | 0 => 0 | 20 => 20 | 72 => 126 | 76 => 130 | 70 => 124 | 37 => 24 | 75 => 129 | 127 => 142 | 164 => 146 | 5 => 5 | 80 => 132 | n => n, fun | n => n⟩
theorem Try.lays156 : Go.Proofs.Lays.n156 Try.prog Try.lays156_ren := {
  mixed := by kernel_rfl
  f156 := Try.func61.trans (congrArg some (by kernel_rfl))
  f165 := Try.func75.trans (congrArg some (by kernel_rfl))
  f166 := Try.func76.trans (congrArg some (by kernel_rfl))
  f169 := Try.func77.trans (congrArg some (by kernel_rfl))
  f240 := Try.func87.trans (congrArg some (by kernel_rfl))
  f241 := Try.func88.trans (congrArg some (by kernel_rfl))
  f276 := Try.func93.trans (congrArg some (by kernel_rfl))
  f277 := Try.func94.trans (congrArg some (by kernel_rfl))
  t0 := Try.underlying0
  a0 := Try.isAgg0
  z0 := Try.sizeOf0
  v0 := Try.zeroValue0
  t3 := Try.underlying3
  a3 := Try.isAgg3
  z3 := Try.sizeOf3
  v3 := Try.zeroValue3
  t4 := Try.underlying4
  a4 := Try.isAgg4
  z4 := Try.sizeOf4
  v4 := Try.zeroValue4
  t9 := Try.underlying9
  a9 := Try.isAgg9
  z9 := Try.sizeOf9
  v9 := Try.zeroValue9
  t20 := Try.underlying20
  a20 := Try.isAgg20
  z20 := Try.sizeOf20
  v20 := Try.zeroValue20
  t31 := Try.underlying42
  a31 := Try.isAgg42
  z31 := Try.sizeOf42
  v31 := Try.zeroValue42
  t37 := Try.underlying24
  a37 := Try.isAgg24
  z37 := Try.sizeOf24
  v37 := Try.zeroValue24
  t70 := Try.underlying124
  a70 := Try.isAgg124
  z70 := Try.sizeOf124
  v70 := Try.zeroValue124
  t72 := Try.underlying126
  a72 := Try.isAgg126
  z72 := Try.sizeOf126
  v72 := Try.zeroValue126
  t75 := Try.underlying129
  a75 := Try.isAgg129
  z75 := Try.sizeOf129
  v75 := Try.zeroValue129
  t76 := Try.underlying130
  a76 := Try.isAgg130
  z76 := Try.sizeOf130
  v76 := Try.zeroValue130
  t127 := Try.underlying142
  a127 := Try.isAgg142
  z127 := Try.sizeOf142
  v127 := Try.zeroValue142
  t164 := Try.underlying146
  a164 := Try.isAgg146
  z164 := Try.sizeOf146
  v164 := Try.zeroValue146 }
theorem Try.extra156 : Builder.Extra Try.prog Try.lays156_ren where
  sizeBuilder := by kernel_rfl
  liesBuilder := by kernel_rfl
  t5 := Try.underlying5
  a5 := Try.isAgg5
  z5 := Try.sizeOf5
  v5 := Try.zeroValue5
  infoByte := by kernel_rfl
  cellsByte := by kernel_rfl
  sizeByte := by kernel_rfl
  neB5 := by decide
end Go.Proofs
namespace Go.Proofs.Ytgpkcakanieodaa.Pa
open Go Go.Proofs Go.RowKit Go.Proofs.Ytgpkcakanieodaa.Wx Go.Proofs.Ytgpkcakanieodaa.Hp Go.Proofs.Ytgpkcakanieodaa.W

def strs (ps : List (List UInt8)) : List Value := ps.map fun p => .string (mkStr p)
def slashed (ps : List (List UInt8)) : List UInt8 := ps.flatMap fun p => 47 :: p
theorem join_slashed (x : List UInt8) (r : List (List UInt8)) : 47 :: Lib.join (x :: r) [47] = slashed (x :: r) := by
  rw [Lib.join_cons, Lib.joinTail]
  show _ = (47 :: x) ++ slashed r
  rw [List.cons_append]
  rfl
theorem Join_none {c : Nat} {a : Option Addr} {sep : ByteArray} {h : Heap} {K : Value → Heap → Prop} (hK : K (.string (mkStr [])) h) : C.strings_Join a 0 c sep h K := by
  refine ⟨⟨_, Try.func61, by kernel_rfl, by kernel_rfl⟩, fun w hw => ?_⟩
  subst hw
  exact (Any.strings_Join_none Try.lays156 Try.extra156 a c sep w).mono fun e w' ⟨h1, h2⟩ => ⟨_, h1, by subst h2; exact .refl _, by subst h2; exact hK⟩
theorem Join_spec {p : Addr} {l c : Nat} {ps : List (List UInt8)} {h : Heap} {K : Value → Heap → Prop} (B : Cells h p (strs ps)) (hs : p.spot = none) (hl : ps.length = l) (hc : l ≤ c) (h0 : 0 < l) (hn : l ≤ 140737488355328) (hlen : (Lib.join ps [47]).length ≤ 140737488355328)
    (hK : ∀ h', Fr No h h' → K (.string (mkStr (Lib.join ps [47]))) h') : C.strings_Join (some p) l c (mkStr [47]) h K := by
  refine ⟨⟨_, Try.func61, by kernel_rfl, by kernel_rfl⟩, fun w hw => ?_⟩
  subst hw
  obtain ⟨bk, o, sp⟩ := p
  simp only at hs
  subst hs
  subst hl
  have hx : (ps.map mkStr).map (·.data.toList) = ps := by
    rw [List.map_map]
    exact List.map_id' ps
  have hcell : ∀ (j : Nat) x, (ps.map mkStr)[j]? = some x → w.cell? ⟨bk, o + j, none⟩ = some (.string x) := by
    intro j x hj
    rw [List.getElem?_map] at hj
    obtain ⟨y, hy, rfl⟩ := Option.map_eq_some_iff.mp hj
    have := B j (.string (mkStr y)) (by rw [strs, List.getElem?_map, hy]; rfl)
    rw [add_mk] at this
    exact this
  have hbk : bk < w.heap.size := by
    have := B 0 (.string (mkStr (ps[0]'h0))) (by rw [strs, List.getElem?_map, List.getElem?_eq_getElem h0]; rfl)
    obtain ⟨_, e2⟩ := cellOf_some this
    rw [Addr.add_zero] at e2
    exact rd_lt e2
  have := Any.strings_Join Try.lays156 Try.extra156 bk o c (ps.map mkStr) (mkStr [47]) w hcell hbk (by rw [List.length_map]; exact hn) (by rw [List.length_map]; exact hc) (by rw [hx]; exact hlen)
  rw [hx, List.length_map] at this
  exact this.mono fun e w' ⟨h1, b⟩ => ⟨_, h1, ⟨b.os, b.tape, b.output⟩, hK w'.heap ⟨b.size, fun k hk _ => b.block k hk⟩⟩
end Go.Proofs.Ytgpkcakanieodaa.Pa
