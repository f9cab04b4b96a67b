/-
  LAW AdiskSplits: a row of orders as a row of acts.
-/
import Derived.Test.YtnbfaokpaiiojaaSpA
namespace Go.Proofs.Ytnbfaokpaiiojaa.L3
open Go Go.Proofs Go.Proofs.Ytnbfaokpaiiojaa.Wx Go.Proofs.Ytnbfaokpaiiojaa.Hp Go.Proofs.Ytnbfaokpaiiojaa.W Go.Proofs.Ytnbfaokpaiiojaa.Ad

/-- the disk and its image, while rows are made beside them -/
structure Bk (h0 : Heap) (n : Int) (q ia : Option Addr) (ic : Nat) (h : Heap) (col : Nat → Nat) : Prop where
  fr : Fr No h0 h
  base : ∀ b, b < h0.size → col b = 0
  D : DiskAt h q (Ad.fresh (blocks0 (many n))) col 10
  im : Sl h 1 ia (many n * 512) ic ((blocks0 (many n)).flatten.map bv) (On col 4)
theorem Bk.keep {h0 : Heap} {n : Int} {q ia : Option Addr} {ic : Nat} {h h' : Heap} {col col' : Nat → Nat} {F : Nat → Prop} (b : Bk h0 n q ia ic h col) (f : Fr F h h') (g : Ag h.size col col')
    (hF : ∀ x, F x → col x = 1 ∨ col x = 2) : Bk h0 n q ia ic h' col' :=
  ⟨b.fr.trans f fun x hx y => by have := hF x y; have := b.base x hx; omega, fun x hx => (g x (Nat.lt_of_lt_of_le hx b.fr.size)).trans (b.base x hx),
   b.D.keep f g fun x h1 h2 y => by have := hF x y; omega, b.im.keep f g fun x hx y => by have := hF x y; omega⟩
theorem add_row {elem : TI} {e : Nat} {h0 : Heap} {n : Int} {q ia a : Option Addr} {ic l c k : Nat} {h : Heap} {col : Nat → Nat} {xs : List (Ent × List UInt8)} {N : Int} {x : Ent × List UInt8} {K : Option Addr → Nat → Nat → Heap → Prop}
    (he : elem.cells = 3) (hb : elem.bytes ≤ 1000) (hz : elem.zero.length = elem.cells) (hk : k = 1 ∨ k = 2) (hl : l ≤ 1000000)
    (B : Bk h0 n q ia ic h col) (R : Row h col k a l c xs N) (hx : StrAt h x.1.a x.1.l x.2 ∧ (∀ p, x.1.a = some p → p.block < h.size ∧ col p.block = 3)) (hg : refusedOf x.1 N = 0)
    (hK : ∀ a' c' h' col', Fr (On col k) h h' → Ag h.size col col' → Bk h0 n q ia ic h' col' → Row h' col' k a' (l + 1) c' (xs ++ [x]) N → K a' (l + 1) c' h') :
    AppendP elem e a l c 1 x.1.cells h K := by
  have s := R.sl
  rw [← he] at s
  have hm : (l + 1) * elem.bytes ≤ (l + 1) * 1000 := Nat.mul_le_mul_left _ hb
  refine append_col s (by rw [he]; rfl) hz (by omega) (by omega) fun a' c' h' f' s' => ?_
  rw [he] at s'
  have g : Ag h.size col (upd col h.size k) := ag_upd _ _ _
  refine hK a' c' h' _ f' g (B.keep f' g fun x hx => by have hx : col x = k := hx; omega) ⟨?_, ?_, ?_, ?_⟩
  · rw [List.flatMap_append, List.flatMap_cons, List.flatMap_nil, List.append_nil]; exact s'
  · rw [List.length_append, List.length_singleton, R.num]
  · intro y hy
    have hy2 : StrAt h y.1.a y.1.l y.2 ∧ (∀ p, y.1.a = some p → p.block < h.size ∧ col p.block = 3) := by
      rcases List.mem_append.mp hy with hy | hy
      · exact R.by_ y hy
      · rw [List.mem_singleton.mp hy]; exact hx
    exact ⟨StrAt.fr f' hy2.1 fun p hp => by have := (hy2.2 p hp).2; show ¬ col p.block = k; omega, fun p hp => ⟨Nat.lt_of_lt_of_le (hy2.2 p hp).1 f'.size, (g _ (hy2.2 p hp).1).trans (hy2.2 p hp).2⟩⟩
  · intro y hy
    rcases List.mem_append.mp hy with hy | hy
    · exact R.good y hy
    · rw [List.mem_singleton.mp hy]; exact hg
theorem ti_row {h : Heap} {b : Nat} {x : Ent} (r : rd h b = x.cells) : SlCells h (some ⟨b, 0, none⟩) x.cells := cellsAll r
theorem act_row {elem : TI} {e t : Nat} {h0 : Heap} {n : Int} {q ia a : Option Addr} {ic l c k : Nat} {h : Heap} {col : Nat → Nat} {xs : List (Ent × List UInt8)} {o : Ord} {p : Addr} {K : Option Addr → Nat → Nat → Heap → Prop}
    (he : elem.cells = 3) (hb : elem.bytes ≤ 1000) (hz : elem.zero.length = elem.cells) (hk : k = 1 ∨ k = 2) (hl : l ≤ 1000000)
    (B : Bk h0 n q ia ic h col) (R : Row h col k a l c xs (many n : Nat)) (hc : Cells h p o.cells)
    (hK : ∀ x a' c' h' col', Fr (On col k) h h' → Ag h.size col col' → Bk h0 n q ia ic h' col' → Row h' col' k a' (l + 1) c' (xs ++ [x]) (many n : Nat) → K a' (l + 1) c' h') :
    C.adisk_Disk_Blocks q h fun r2 h4 =>
    ∃ (n2 : Int), r2 = .int .i64 n2 ∧
    (List.length (o.cells : List Value) = 3 ∧ Cells h4 p o.cells) ∧
    C.bolelaw03_act o.cells n2 h4 fun r3 h5 =>
    ∃ (cs2 : List Value), r3 = .agg ⟨cs2⟩ ∧
    List.length (cs2 : List Value) = 3 ∧
    New cs2 t h5 fun h6 =>
    ∃ new1 : List Value, List.length new1 = 1 * 3 ∧ SlCells h6 (some ⟨h5.size, 0, none⟩) new1 ∧ (∀ v ∈ new1, v.oneCell' = true) ∧
    AppendP elem e a l c 1 new1 h6 K := by
  have hm0 := Int.emod_nonneg n (show (9 : Int) ≠ 0 by decide)
  have hm1 := Int.emod_lt_of_pos n (show (0 : Int) < 9 by decide)
  have hN : 1 ≤ many n ∧ many n ≤ 9 := by unfold many; omega
  have hlen : (Ad.fresh (blocks0 (many n))).lasts.length = many n := by show (blocks0 _).length = _; rw [blocks0, List.length_map, List.length_range]
  refine Ad.Blocks_spec B.D ⟨_, rfl, ⟨rfl, hc⟩, ?_⟩
  rw [hlen]
  have g : Ag h.size col (upd col h.size 3) := ag_upd _ _ _
  have go : ∀ (x : Ent × List UInt8) (h5 h6 : Heap), Fr No h h5 → Newly h5 h6 x.1.cells → StrAt h5 x.1.a x.1.l x.2 → (∀ p, x.1.a = some p → h.size ≤ p.block ∧ p.block < h5.size) → refusedOf x.1 (many n : Nat) = 0 →
      AppendP elem e a l c 1 x.1.cells h6 K := by
    intro x h5 h6 f5 n6 s5 hx hg
    have f6 := f5.no n6.fr
    have hs5 := f5.size
    have hs6 := n6.size
    refine add_row he hb hz hk hl (B.keep f6 g fun _ y => y.elim) (R.keep f6 g (fun _ _ y => y) (fun _ _ y => y)) ⟨StrAt.fr n6.fr s5 fun _ _ y => y, fun p hp => ⟨by have := hx p hp; omega, upd_ge (hx p hp).1⟩⟩ hg fun a' c' h' col' f' g' B' R' => ?_
    exact hK x a' c' h' col' ((f6.mono fun _ _ y => y.elim).trans f' fun b hb y => by have y : upd col h.size 3 b = k := y; rw [upd_lt hb] at y; exact y) (g.trans g' (by omega)) B' R'
  refine act_spec (by omega) (by omega) (fun e1 h5 f5 => ⟨_, rfl, rfl, New.intro fun h6 n6 => ⟨_, rfl, ti_row n6.rd, ent_one _, ?_⟩⟩) (fun e1 b h5 f5 hb5 o5 r5 => ⟨_, rfl, rfl, New.intro fun h6 n6 => ⟨_, rfl, ti_row n6.rd, ent_one _, ?_⟩⟩)
  · exact go (⟨2, o.at_, none, 0, 0⟩, []) h5 h6 f5 n6 ⟨rfl, rfl⟩ (fun p hp => by cases hp) (by rw [refusedOf, if_pos rfl])
  · refine go (⟨1, o.at_ % (many n : Nat), some ⟨b, 0, none⟩, 512, 512⟩, rep o.fill) h5 h6 f5 n6 (strAll r5 (rep_length _)) (fun p hp => by cases hp; exact ⟨hb5, o5.lt⟩) ?_
    have e0 := Int.emod_nonneg o.at_ (show ((many n : Nat) : Int) ≠ 0 by omega)
    have e1 := Int.emod_lt_of_pos o.at_ (show (0 : Int) < (many n : Nat) by omega)
    rw [refusedOf, if_neg (by show ¬ (1 : Int) = 2; decide), if_neg (by show ¬ (1 : Int) ≠ 1; decide), if_neg (by show ¬ o.at_ % (many n : Nat) < 0; omega), if_neg (by show ¬ o.at_ % (many n : Nat) ≥ (many n : Nat); omega), if_neg (by show ¬ (512 : Nat) ≠ 512; decide)]
end Go.Proofs.Ytnbfaokpaiiojaa.L3
