/-
  LAW AdiskSplits, the whole.
-/
import Derived.Test.YtnbfaokpaiiojaaSpB
namespace Go.Proofs.Ytnbfaokpaiiojaa.L3
open Go Go.Proofs Go.Proofs.Ytnbfaokpaiiojaa.Wx Go.Proofs.Ytnbfaokpaiiojaa.Hp Go.Proofs.Ytnbfaokpaiiojaa.W Go.Proofs.Ytnbfaokpaiiojaa.Ad

theorem ord_part {h : Heap} {pa : Option Addr} {pl : Nat} {os : List Ord} {i : Nat} (P : SlCells h pa (os.flatMap Ord.cells)) (hi : i < os.length) : ∃ p, pa = some p ∧ Cells h (p.add (i * 3)) (Ord.cells os[i]) := by
  cases pa with
  | none =>
    have P : os.flatMap Ord.cells = [] := P
    have := flat_length Ord.cells 3 os (fun _ _ => rfl)
    rw [P] at this; simp at this; omega
  | some p =>
    have := Cells.part P (i * 3) 3
    rw [flat_part Ord.cells 3 os (fun _ _ => rfl) _ hi] at this
    exact ⟨p, rfl, this⟩
theorem flatcells_one (xs : List (Ent × List UInt8)) : ∀ v ∈ xs.flatMap (fun x => x.1.cells), v.oneCell' = true := by
  intro v hv
  obtain ⟨x, _, h⟩ := List.mem_flatMap.mp hv
  exact ent_one _ v h
theorem flatcells_length (xs : List (Ent × List UInt8)) : (xs.flatMap (fun x => x.1.cells)).length = xs.length * 3 := flat_length (fun x : Ent × List UInt8 => x.1.cells) 3 xs fun _ _ => rfl
theorem cut_all {ls : List (List UInt8)} (h : ∀ x ∈ ls, x.length = 512) (xs : List (Ent × List UInt8)) (keep : List Bool) :
    (∀ x ∈ ((runs (Ad.fresh ls) xs).cut keep).lasts, x.length = 512) ∧ ((runs (Ad.fresh ls) xs).cut keep).lasts.length = ls.length := by
  have c := (Calm.fresh h).runs xs
  refine ⟨applyTo_len _ _ c.lw fun x hx => ?_, ?_⟩
  · obtain ⟨y, hy, rfl⟩ := List.mem_map.mp hx
    exact c.pw _ (List.of_mem_zip (List.mem_filter.mp hy).1).1
  · show (applyTo _ _).length = _
    rw [applyTo_length]
    clear c h
    suffices ∀ (S : RD), (runs S xs).lasts.length = S.lasts.length from this _
    induction xs with
    | nil => intro S; rfl
    | cons x r ih => intro S; exact (ih (one S x)).trans (one_keeps S x).1
theorem splits4 {n : Int} {q ia aa ba ka : Option Addr} {ic al ac bl bc kl kc : Nat} {h0 h : Heap} {col : Nat → Nat} {xs ys : List (Ent × List UInt8)} {f : Ent × List UInt8} {keep : List Bool} {K : Value → Heap → Prop}
    (hf : f.1.kind = 2) (Kp : SlCells h0 ka (keep.map .bool)) (hkl : keep.length = kl) (hal : al ≤ 1000) (hbl : bl ≤ 1000)
    (B : Bk h0 n q ia ic h col) (X : Row h col 1 aa al ac (xs ++ [f]) (many n : Nat)) (Y : Row h col 2 ba bl bc ys (many n : Nat))
    (hK : ∀ h', Fr No h0 h' → K (.bool true) h') : bolelaw03_AdiskSplits.k4 ka kl kc ia (many n * 512) ic aa al ac ba bl bc h K := by
  have hm0 := Int.emod_nonneg n (show (9 : Int) ≠ 0 by decide)
  have hm1 := Int.emod_lt_of_pos n (show (0 : Int) < 9 by decide)
  have hN : 1 ≤ many n ∧ many n ≤ 9 := by unfold many; omega
  have hw := blocks0_len (many n)
  have hbn : (blocks0 (many n)).length = many n := by rw [blocks0, List.length_map, List.length_range]
  have nx := X.num
  have ny := Y.num
  refine After_row (xs := xs ++ [f]) B.im.str B.im.le hN.1 (by omega) rfl X (by omega) (SlCells.fr B.fr Kp fun _ _ x => x) hkl fun a1 c1 h1 f1 s1 => ⟨_, _, _, _, rfl, cn (fun x => absurd rfl x) fun _ => ?_⟩
  rw [chunks_of _ hw] at s1
  have B1 := B.keep f1 (Ag.refl _ _) fun _ x => x.elim
  have X1 := X.keep f1 (Ag.refl _ _) (fun _ _ y => y) (fun _ _ y => y)
  have Y1 := Y.keep f1 (Ag.refl _ _) (fun _ _ y => y) (fun _ _ y => y)
  refine After_row (xs := ys) s1.str s1.le hN.1 (by omega) rfl Y1 (by omega) (SlCells.fr B1.fr Kp fun _ _ x => x) hkl fun a2 c2 h2 f2 s2 => ⟨_, _, _, _, rfl, ?_⟩
  have g : Ag h1.size col (upd col h1.size 5) := ag_upd _ _ _
  have B2 := B1.keep f2 g fun _ x => x.elim
  have X2 := X1.keep f2 g (fun _ _ y => y) (fun _ _ y => y)
  have Y2 := Y1.keep f2 g (fun _ _ y => y) (fun _ _ y => y)
  have t2 : Sl h2 1 a2 (many n * 512) c2 _ (On (upd col h1.size 5) 5) := s2.mono fun b hb => upd_ge hb
  refine ⟨_, by rw [flatcells_length, ny], Y2.sl.cells, flatcells_one _, append_col X2.sl (by rw [flatcells_length, ny]; rfl) rfl (by show (al + bl) * 40 ≤ _; omega) (by omega) fun a3 c3 h3 f3 s3 => ?_⟩
  have g3 : Ag h2.size (upd col h1.size 5) (upd (upd col h1.size 5) h2.size 1) := ag_upd _ _ _
  have B3 := B2.keep f3 g3 fun x hx => by have hx : upd col h1.size 5 x = 1 := hx; exact Or.inl hx
  have t3 := t2.keep f3 g3 fun x hx y => by have y : upd col h1.size 5 x = 1 := y; omega
  have bys : ∀ x ∈ (xs ++ [f]) ++ ys, StrAt h2 x.1.a x.1.l x.2 ∧ (∀ p, x.1.a = some p → p.block < h2.size ∧ upd col h1.size 5 p.block = 3) := by
    intro x hx
    rcases List.mem_append.mp hx with hx | hx
    · exact X2.by_ x hx
    · exact Y2.by_ x hx
  have R3 : Row h3 (upd (upd col h1.size 5) h2.size 1) 1 a3 (al + bl) c3 ((xs ++ [f]) ++ ys) (many n : Nat) := by
    refine ⟨?_, by rw [List.length_append, nx, ny], fun x hx => ⟨StrAt.fr f3 (bys x hx).1 fun p hp => by have := ((bys x hx).2 p hp).2; show ¬ upd col h1.size 5 p.block = 1; omega, fun p hp => ⟨Nat.lt_of_lt_of_le ((bys x hx).2 p hp).1 f3.size, (g3 _ ((bys x hx).2 p hp).1).trans ((bys x hx).2 p hp).2⟩⟩, fun x hx => ?_⟩
    · rw [List.flatMap_append]; exact s3
    · rcases List.mem_append.mp hx with hx | hx
      · exact X2.good x hx
      · exact Y2.good x hx
  refine After_row (xs := (xs ++ [f]) ++ ys) B3.im.str B3.im.le hN.1 (by omega) rfl R3 (by rw [List.length_append, nx, ny]; omega) (SlCells.fr B3.fr Kp fun _ _ x => x) hkl fun a4 c4 h4 f4 s4 => ⟨_, _, _, _, rfl, ct rfl (ct rfl ?_)⟩
  rw [chunks_of _ hw] at s4
  have t4 := t3.keep f4 (Ag.refl _ _) fun _ _ y => y
  refine ⟨_, t4.str, _, s4.str, ct ?_ ?_⟩
  · rw [splits_plain hw xs ys f hf keep]; exact beq_self_eq_true _
  · have : ((many n * 512 : Nat) : Int) == ((many n * 512 : Nat) : Int) := beq_self_eq_true _
    rw [this]
    exact hK h4 (B3.fr.no f4)
theorem splits2 {n : Int} {q ia aa sa ka : Option Addr} {ic al ac sl kl kc : Nat} {h0 h : Heap} {col : Nat → Nat} {xs : List (Ent × List UInt8)} {os : List Ord} {keep : List Bool} {K : Value → Heap → Prop}
    (P : SlCells h0 sa (os.flatMap Ord.cells)) (hos : os.length = sl) (Kp : SlCells h0 ka (keep.map .bool)) (hkl : keep.length = kl) (hal : al ≤ 60)
    (B : Bk h0 n q ia ic h col) (X : Row h col 1 aa al ac xs (many n : Nat))
    (hK : ∀ h', Fr No h0 h' → K (.bool true) h') : bolelaw03_AdiskSplits.k2 sa sl ka kl kc q ia (many n * 512) ic aa al ac h K := by
  refine ⟨rfl, New.intro fun h2 n2 => ⟨_, rfl, cellsAll n2.rd, ent_one ⟨2, 0, none, 0, 0⟩, ?_⟩⟩
  have g2 : Ag h.size col (upd col h.size 3) := ag_upd _ _ _
  refine add_row (x := (⟨2, 0, none, 0, 0⟩, [])) rfl (by decide) rfl (Or.inl rfl) (by omega) (B.keep n2.fr g2 fun _ x => x.elim) (X.keep n2.fr g2 (fun _ _ y => y) (fun _ _ y => y)) ⟨⟨rfl, rfl⟩, fun p hp => by cases hp⟩ (by rw [refusedOf, if_pos rfl]) fun a3 c3 h3 col3 f3 g3 B3 X3 => ?_
  refine ⟨fun a l c i hh => 0 ≤ i ∧ i ≤ 60 ∧ l = i.toNat ∧ ∃ col ys ax ac, ax = a3 ∧ ac = c3 ∧ Bk h0 n q ia ic hh col ∧ Row hh col 1 ax (al + 1) ac (xs ++ [(⟨2, 0, none, 0, 0⟩, [])]) (many n : Nat) ∧ Row hh col 2 a l c ys (many n : Nat), fun _ _ _ i _ => ((sl : Nat) - i).toNat,
    ⟨by omega, by omega, rfl, col3, [], _, _, rfl, rfl, B3, X3, Row.nil _ _ _ _⟩, ?_⟩
  rintro a l c i h4 ⟨i0, i1, hl, col4, ys, _, _, rfl, rfl, B4, X4, Y4⟩
  have fin := splits4 (kc := kc) (f := (⟨2, 0, none, 0, 0⟩, [])) rfl Kp hkl (by omega) (by omega) B4 X4 Y4 hK
  refine cd (fun hi => cd (fun hi2 => ?_) fun _ => fin) fun _ => fin
  have hi' : i.toNat < os.length := by omega
  obtain ⟨p, rfl, hc⟩ := ord_part (pl := sl) (SlCells.fr B4.fr P fun _ _ x => x) hi'
  refine ⟨⟨i0, hi⟩, Hp.os ⟨_, rfl, hc, act_row rfl (by decide) rfl (Or.inr rfl) (by omega) B4 Y4 hc fun x a5 c5 h5 col5 f5 g5 B5 Y5 => ?_⟩⟩
  rw [wrap_i64 (by omega) (by omega)]
  refine ⟨⟨by omega, by omega, by omega, col5, ys ++ [x], _, _, rfl, rfl, B5, X4.keep f5 g5 (fun b hb y => by have y : col4 b = 2 := y; omega) (fun b hb y => by have y : col4 b = 2 := y; omega), Y5⟩, falls hi⟩
theorem AdiskSplits_spec {n : Int} {fa sa ka : Option Addr} {fl fc sl sc kl kc : Nat} {os1 os2 : List Ord} {keep : List Bool} {h : Heap} {K : Value → Heap → Prop}
    (P1 : SlCells h fa (os1.flatMap Ord.cells)) (hos1 : os1.length = fl) (P2 : SlCells h sa (os2.flatMap Ord.cells)) (hos2 : os2.length = sl) (Kp : SlCells h ka (keep.map .bool)) (hkl : keep.length = kl)
    (hK : ∀ h', Fr No h h' → K (.bool true) h') : C.bolelaw03_AdiskSplits n fa fl fc sa sl sc ka kl kc h K := by
  refine bolelaw03_AdiskSplits.ok (fresh_spec (fun _ => 0) 10 4 (Or.inl (by omega)) (free0 h (by omega)) fun q a c h2 col2 f2 g2 D2 new2 s2 hp2 => ⟨_, _, _, _, rfl, cf rfl ?_⟩)
  have B2 : Bk h n (some q) a c h2 col2 := ⟨f2, fun b hb => g2 b hb, D2, s2⟩
  refine ⟨fun a' l' c' i hh => 0 ≤ i ∧ i ≤ 60 ∧ l' = i.toNat ∧ ∃ col xs, Bk h n (some q) a c hh col ∧ Row hh col 1 a' l' c' xs (many n : Nat), fun _ _ _ i _ => ((fl : Nat) - i).toNat,
    ⟨by omega, by omega, rfl, col2, [], B2, Row.nil _ _ _ _⟩, ?_⟩
  rintro a' l' c' i h4 ⟨i0, i1, hl, col4, xs, B4, X4⟩
  have fin := splits2 (kc := kc) P2 hos2 Kp hkl (by omega) B4 X4 hK
  refine cd (fun hi => cd (fun hi2 => ?_) fun _ => fin) fun _ => fin
  have hi' : i.toNat < os1.length := by omega
  obtain ⟨p, rfl, hc⟩ := ord_part (pl := fl) (SlCells.fr B4.fr P1 fun _ _ x => x) hi'
  refine ⟨⟨i0, hi⟩, Hp.os ⟨_, rfl, hc, act_row rfl (by decide) rfl (Or.inl rfl) (by omega) B4 X4 hc fun x a5 c5 h5 col5 f5 g5 B5 X5 => ?_⟩⟩
  rw [wrap_i64 (by omega) (by omega)]
  exact ⟨⟨by omega, by omega, by omega, col5, xs ++ [x], B5, X5⟩, falls hi⟩
end Go.Proofs.Ytnbfaokpaiiojaa.L3
