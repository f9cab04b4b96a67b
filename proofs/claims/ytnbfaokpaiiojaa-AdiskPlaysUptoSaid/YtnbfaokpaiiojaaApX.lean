import Derived.Test.YtnbfaokpaiiojaaApI
import Derived.Test.YtnbfaokpaiiojaaAdL
/-
  bolelaw03.AdiskPlays: the book's end: its bytes, all grown, in a row of their own.
-/
namespace Go.Proofs.Ytnbfaokpaiiojaa.Ap
open Go Go.Proofs Go.Proofs.Ytnbfaokpaiiojaa.Wx Go.Proofs.Ytnbfaokpaiiojaa.Hp Go.Proofs.Ytnbfaokpaiiojaa.W Go.Proofs.Ytnbfaokpaiiojaa.Ad Go.Proofs.Ytnbfaokpaiiojaa.L3 Go.Proofs.Ytnbfaokpaiiojaa.Rf

/-- the book without its lists of bytes -/
structure Bq (h : Heap) (col : Nat → Nat) (kb : Nat) (xs : List Hb) (is : List Li) (ats : List La) : Prop where
  sc : col kb = 30
  so : Own h kb
  rows : ∃ ba bc ia ic ta tc aa ac wa wc, rd h kb = bkV ba xs.length bc ia is.length ic ta tc aa ats.length ac wa wc ∧ Sl h 5 ba xs.length bc (xs.flatMap Hb.cells) (On col 31) ∧ Sl h 1 ia is.length ic (is.flatMap Li.v) (On col 32) ∧ Sl h 1 ta is.length tc (is.flatMap Li.t) (On col 33) ∧ Sl h 1 aa ats.length ac (ats.flatMap La.v) (On col 34) ∧ Sl h 1 wa ats.length wc (ats.flatMap La.t) (On col 35)
  bi : ∀ i (hi : i < is.length), is[i].Ok h col (41 + 5 * i) (42 + 5 * i)
  ba : ∀ i (hi : i < ats.length), ats[i].Ok h col (43 + 5 * i) (44 + 5 * i)
section
variable {h h' : Heap} {col col' : Nat → Nat} {kb c : Nat} {xs : List Hb} {is : List Li} {ats : List La}
theorem Bk.q (B : Bk h col kb xs is ats c) : Bq h col kb xs is ats := ⟨B.sc, B.so, B.rows, B.bi, B.ba⟩
theorem Bq.keep (B : Bq h col kb xs is ats) {Kc : Nat → Prop} (f : Fr (fun b => Kc (col b)) h h') (g : Ag h.size col col') (hk : ∀ i, (i < is.length → ¬ Kc (41 + 5 * i) ∧ ¬ Kc (42 + 5 * i)) ∧ (i < ats.length → ¬ Kc (43 + 5 * i) ∧ ¬ Kc (44 + 5 * i))) (h40 : ∀ k, 30 ≤ k → k < 40 → ¬ Kc k) : Bq h' col' kb xs is ats := by
  obtain ⟨ba, bc, ia, ic, ta, tc, aa, ac, wa, wc, r, s1, s2, s3, s4, s5⟩ := B.rows
  have q : ∀ k', ¬ Kc k' → ∀ b, col b = k' → ¬ (fun b => Kc (col b)) b := fun k' hk' b hb y => hk' (hb ▸ y)
  have hb := B.so.lt
  have nb := q 30 (h40 30 (by decide) (by decide)) kb B.sc
  exact ⟨(g _ hb).trans B.sc, f.own hb nb B.so, ⟨ba, bc, ia, ic, ta, tc, aa, ac, wa, wc, (f.rd hb nb).trans r, s1.keep f g (q 31 (h40 _ (by decide) (by decide))), s2.keep f g (q 32 (h40 _ (by decide) (by decide))), s3.keep f g (q 33 (h40 _ (by decide) (by decide))), s4.keep f g (q 34 (h40 _ (by decide) (by decide))), s5.keep f g (q 35 (h40 _ (by decide) (by decide)))⟩,
    fun i hi => ⟨(B.bi i hi).s.keep f g (q _ ((hk i).1 hi).1), (B.bi i hi).t.keep f g (q _ ((hk i).1 hi).2), (B.bi i hi).max⟩, fun i hi => ⟨(B.ba i hi).s.keep f g (q _ ((hk i).2 hi).1), (B.ba i hi).t.keep f g (q _ ((hk i).2 hi).2), (B.ba i hi).e, (B.ba i hi).same, (B.ba i hi).max⟩⟩
theorem Bq.no (B : Bq h col kb xs is ats) (f : Fr No h h') (g : Ag h.size col col') : Bq h' col' kb xs is ats := B.keep (Kc := fun _ => False) (f.mono fun _ _ y => y) g (fun _ => ⟨fun _ => ⟨id, id⟩, fun _ => ⟨id, id⟩⟩) fun _ _ _ => id
end
/-- a list of bytes that has grown -/
structure Hb.Up (h : Heap) (col : Nat → Nat) (k : Nat) (x : Hb) : Prop where
  sl : Sl h 1 x.a x.l x.c (x.bs.map bv) (On col k)
  full : x.bs = List.replicate (x.n + 3) x.mark
  max : x.n ≤ 140737488355000
theorem Hb.Up.keep {h h' : Heap} {col col' : Nat → Nat} {k : Nat} {x : Hb} (o : x.Up h col k) {F : Nat → Prop} (f : Fr F h h') (g : Ag h.size col col') (hF : ∀ b, col b = k → ¬ F b) : x.Up h' col' k := ⟨o.sl.keep f g hF, o.full, o.max⟩
/-- j lists of bytes have grown -/
structure Gj (h : Heap) (col0 : Nat → Nat) (kb : Nat) (xs : List Hb) (is : List Li) (ats : List La) (ra : Option Addr) (rc : Nat) (j k : Nat) (hh : Heap) (la : Option Addr) (ll lc : Nat) (col : Nat → Nat) (ys : List Hb) : Prop where
  fr : Fr (fun b => 29 ≤ col0 b) h hh
  ag : Ag h.size col0 col
  q : Bq hh col kb xs is ats
  row : Sl hh 5 ra xs.length rc (xs.flatMap Hb.cells) (On col 31)
  hl : ll = j
  yl : ys.length = j
  l : Sl hh 5 la j lc (ys.flatMap Hb.cells) (On col 29)
  up : ∀ i (hi : i < ys.length), ys[i].Up hh col (40 + 5 * i)
  rest : ∀ i (hi : i < xs.length), k ≤ i → xs[i].Ok hh col (40 + 5 * i)
section
variable {h hh h8 h10 : Heap} {col0 col : Nat → Nat} {kb lc j : Nat} {xs ys : List Hb} {is : List Li} {ats : List La} {la ra : Option Addr} {ll rc : Nat}
/-- one more -/
theorem Gj.push {x : Hb} {X : Option Addr → Nat → Nat → Heap → Prop} {k : Nat} (G : Gj h col0 kb xs is ats ra rc j k hh la ll lc col ys) (hk : k ≤ j + 1) (hj : j < 1000000000000) (hx : x.Up hh col (40 + 5 * j)) (b : Nat) (hb : rd hh b = x.cells) (hX : ∀ a c h' col', (∀ i (hi : i < xs.length), j + 1 ≤ i → xs[i].Ok hh col (40 + 5 * i)) → Gj h col0 kb xs is ats ra rc (j + 1) (j + 1) h' a (j + 1) c col' (ys ++ [x]) → X a (j + 1) c h') :
    ∃ cs4 : List Value, List.length cs4 = 5 ∧ Cells hh ⟨b, 0, none⟩ cs4 ∧ List.length (cs4 : List Value) = 5 ∧ New cs4 117 hh fun h11 =>
      ∃ new1 : List Value, List.length new1 = 1 * 5 ∧ SlCells h11 (some ⟨hh.size, 0, none⟩) new1 ∧ (∀ v ∈ new1, v.oneCell' = true) ∧ AppendP ti117 117 la ll lc 1 new1 h11 X := by
  obtain rfl := G.hl
  refine ⟨_, rfl, cellsAll hb, rfl, New.intro fun h11 n11 => ⟨_, rfl, cellsAll n11.rd, Hb.one x, ?_⟩⟩
  have z11 := n11.size
  have g11 : Ag hh.size col (upd col hh.size 0) := ag_upd _ _ _
  have s11 := G.l.keep n11.fr g11 fun _ _ y => y
  refine append_col s11 rfl rfl (by show (ll + 1) * 64 ≤ _; omega) (by omega) fun a12 c12 h12 f12 s12 => ?_
  have g12 : Ag h11.size (upd col hh.size 0) (upd (upd col hh.size 0) h11.size 29) := ag_upd _ _ _
  have q29 : ∀ k, k ≠ 29 → ∀ b, upd col hh.size 0 b = k → ¬ On (upd col hh.size 0) 29 b := fun k hk b hb y => hk (hb.symm.trans y)
  have B11 := G.q.no n11.fr g11
  have f12' : Fr (fun b => (fun k => k = 29) (upd col hh.size 0 b)) h11 h12 := f12
  have B12 := B11.keep (Kc := fun k => k = 29) f12' g12 (fun i => ⟨fun _ => ⟨fun y => by omega, fun y => by omega⟩, fun _ => ⟨fun y => by omega, fun y => by omega⟩⟩) fun k k1 k2 y => by omega
  have G12 : Ag h.size col0 (upd (upd col hh.size 0) h11.size 29) := (G.ag.trans g11 G.fr.size).trans g12 (Nat.le_trans G.fr.size n11.fr.size)
  have yl := G.yl
  have ku : ∀ {x : Hb} {k : Nat}, x.Up hh col k → k ≠ 29 → x.Up h12 (upd (upd col hh.size 0) h11.size 29) k := fun o hk => (o.keep n11.fr g11 fun _ _ y => y).keep f12 g12 (q29 _ hk)
  have ko : ∀ {x : Hb} {k : Nat}, x.Ok hh col k → k ≠ 29 → x.Ok h12 (upd (upd col hh.size 0) h11.size 29) k := fun o hk => (o.keep n11.fr g11 fun _ _ y => y).keep f12 g12 (q29 _ hk)
  refine hX a12 c12 h12 _ (fun i hi y => G.rest i hi (by omega)) ⟨(G.fr.no n11.fr).trans f12 fun b hb y => ?_, G12, B12, (G.row.keep n11.fr g11 fun _ _ y => y).keep f12 g12 (q29 _ (by decide)), rfl, by rw [List.length_append, yl]; rfl, ?_, fun i hi => ?_, fun i hi y => ko (G.rest i hi (by omega)) (by omega)⟩
  · have y : upd col hh.size 0 b = 29 := y
    have e1 := g11 b (Nat.lt_of_lt_of_le hb G.fr.size)
    have e2 := G.ag b hb
    show 29 ≤ col0 b
    omega
  · rw [List.flatMap_append, List.flatMap_singleton]
    exact s12
  · by_cases e : i = ys.length
    · subst e
      rw [List.getElem_append_right (Nat.le_refl _)]
      simp only [Nat.sub_self, List.getElem_singleton]
      rw [yl]
      exact ku hx (by omega)
    · have hi' : i < ys.length := by rw [List.length_append] at hi; have hi : i < ys.length + 1 := hi; omega
      rw [List.getElem_append_left hi']
      exact ku (G.up i hi') (by omega)
end
end Go.Proofs.Ytnbfaokpaiiojaa.Ap
/-
  bolelaw03.AdiskPlays: the book's end: all compared, the bytes grown.
-/
namespace Go.Proofs.Ytnbfaokpaiiojaa.Ap
open Go Go.Proofs Go.Proofs.Ytnbfaokpaiiojaa.Wx Go.Proofs.Ytnbfaokpaiiojaa.Hp Go.Proofs.Ytnbfaokpaiiojaa.W Go.Proofs.Ytnbfaokpaiiojaa.Ad Go.Proofs.Ytnbfaokpaiiojaa.L3 Go.Proofs.Ytnbfaokpaiiojaa.Rf

/-! the later parts of Book.holds (printed by wip/tools/mkap.py) -/
def holdsB (kb : Nat) (lA1 : Option Addr) (lL1 : Nat) (h6 : Heap) (K : Value → Heap → Prop) : Prop :=
  onSome (some (⟨kb, 0, none⟩ : Addr)) fun p13 =>
  ∃ (sA15 : Option Addr) (sL15 : Nat) (sC15 : Nat), cellOf h6 (Addr.add p13 1) = some (.slice sA15 sL15 sC15) ∧
  ∃ (I4 : Int → Heap → Prop) (M4 : Int → Heap → Nat), I4 0 h6 ∧
  ∀ (n4 : Int), ∀ h15 : Heap, I4 n4 h15 →
  bif (decide (n4 < (sL15 : Int))) then (
  onSome (some (⟨kb, 0, none⟩ : Addr)) fun p14 =>
  ∃ (sA16 : Option Addr) (sL16 : Nat) (sC16 : Nat), cellOf h15 (Addr.add p14 1) = some (.slice sA16 sL16 sC16) ∧
  (0 ≤ n4 ∧ n4 < (sL16 : Int)) ∧
  onSome sA16 fun p15 =>
  ∃ (sA17 : Option Addr) (sL17 : Nat) (sC17 : Nat), cellOf h15 (Addr.add p15 (Int.toNat n4)) = some (.slice sA17 sL17 sC17) ∧
  ∃ (I5 : Int → Heap → Prop) (M5 : Int → Heap → Nat), I5 0 h15 ∧
  ∀ (n5 : Int), ∀ h16 : Heap, I5 n5 h16 →
  bif (decide (n5 < (sL17 : Int))) then (
  onSome (some (⟨kb, 0, none⟩ : Addr)) fun p16 =>
  ∃ (sA18 : Option Addr) (sL18 : Nat) (sC18 : Nat), cellOf h16 (Addr.add p16 1) = some (.slice sA18 sL18 sC18) ∧
  (0 ≤ n4 ∧ n4 < (sL18 : Int)) ∧
  onSome sA18 fun p17 =>
  ∃ (sA19 : Option Addr) (sL19 : Nat) (sC19 : Nat), cellOf h16 (Addr.add p17 (Int.toNat n4)) = some (.slice sA19 sL19 sC19) ∧
  (0 ≤ n5 ∧ n5 < (sL19 : Int)) ∧
  onSome sA19 fun p18 =>
  Put (Addr.add p18 (Int.toNat n5)) (.int .i64 (IntKind.wrap .i64 ((-1000) - n4))) h16 fun h17 =>
  I5 (IntKind.wrap .i64 (n5 + 1)) h17 ∧ M5 (IntKind.wrap .i64 (n5 + 1)) h17 < M5 n5 h16) else (
  onSome (some (⟨kb, 0, none⟩ : Addr)) fun p19 =>
  ∃ (sA20 : Option Addr) (sL20 : Nat) (sC20 : Nat), cellOf h16 (Addr.add p19 1) = some (.slice sA20 sL20 sC20) ∧
  onSome (some (⟨kb, 0, none⟩ : Addr)) fun p20 =>
  ∃ (sA21 : Option Addr) (sL21 : Nat) (sC21 : Nat), cellOf h16 (Addr.add p20 1) = some (.slice sA21 sL21 sC21) ∧
  (0 ≤ n4 ∧ n4 < (sL21 : Int)) ∧
  onSome sA21 fun p21 =>
  ∃ (sA22 : Option Addr) (sL22 : Nat) (sC22 : Nat), cellOf h16 (Addr.add p21 (Int.toNat n4)) = some (.slice sA22 sL22 sC22) ∧
  New [.int .i64 (IntKind.wrap .i64 ((-1000) - n4))] 3 h16 fun h18 =>
  (cellOf h18 (Addr.add p19 1) = some (.slice sA20 sL20 sC20)) ∧
  (cellOf h18 (Addr.add p20 1) = some (.slice sA21 sL21 sC21)) ∧
  (cellOf h18 (Addr.add p21 (Int.toNat n4)) = some (.slice sA22 sL22 sC22)) ∧
  ∃ new3 : List Value, List.length new3 = 1 * 1 ∧ SlCells h18 (some ⟨h16.size, 0, none⟩) new3 ∧ (∀ v ∈ new3, v.oneCell' = true) ∧
  AppendP ti3 3 sA22 sL22 sC22 1 new3 h18 fun sA23 sL23 sC23 h19 =>
  (cellOf h19 (Addr.add p19 1) = some (.slice sA20 sL20 sC20)) ∧
  (0 ≤ n4 ∧ n4 < (sL20 : Int)) ∧
  onSome sA20 fun p22 =>
  Put (Addr.add p22 (Int.toNat n4)) (.slice sA23 sL23 sC23) h19 fun h20 =>
  I4 (IntKind.wrap .i64 (n4 + 1)) h20 ∧ M4 (IntKind.wrap .i64 (n4 + 1)) h20 < M4 n4 h15)) else (
  onSome (some (⟨kb, 0, none⟩ : Addr)) fun p23 =>
  ∃ (sA24 : Option Addr) (sL24 : Nat) (sC24 : Nat), cellOf h15 (Addr.add p23 3) = some (.slice sA24 sL24 sC24) ∧
  ∃ (I6 : Int → Heap → Prop) (M6 : Int → Heap → Nat), I6 0 h15 ∧
  ∀ (n6 : Int), ∀ h21 : Heap, I6 n6 h21 →
  bif (decide (n6 < (sL24 : Int))) then (
  onSome (some (⟨kb, 0, none⟩ : Addr)) fun p24 =>
  ∃ (sA25 : Option Addr) (sL25 : Nat) (sC25 : Nat), cellOf h21 (Addr.add p24 3) = some (.slice sA25 sL25 sC25) ∧
  (0 ≤ n6 ∧ n6 < (sL25 : Int)) ∧
  onSome sA25 fun p25 =>
  ∃ (sA26 : Option Addr) (sL26 : Nat) (sC26 : Nat), cellOf h21 (Addr.add p25 (Int.toNat n6)) = some (.slice sA26 sL26 sC26) ∧
  ∃ (I7 : Int → Heap → Prop) (M7 : Int → Heap → Nat), I7 0 h21 ∧
  ∀ (n7 : Int), ∀ h22 : Heap, I7 n7 h22 →
  bif (decide (n7 < (sL26 : Int))) then (
  onSome (some (⟨kb, 0, none⟩ : Addr)) fun p26 =>
  ∃ (sA27 : Option Addr) (sL27 : Nat) (sC27 : Nat), cellOf h22 (Addr.add p26 3) = some (.slice sA27 sL27 sC27) ∧
  (0 ≤ n6 ∧ n6 < (sL27 : Int)) ∧
  onSome sA27 fun p27 =>
  ∃ (sA28 : Option Addr) (sL28 : Nat) (sC28 : Nat), cellOf h22 (Addr.add p27 (Int.toNat n6)) = some (.slice sA28 sL28 sC28) ∧
  (0 ≤ n7 ∧ n7 < (sL28 : Int)) ∧
  onSome sA28 fun p28 =>
  PutRow (Addr.add p28 ((Int.toNat n7) * 3)) [.int .i64 (IntKind.wrap .i64 ((-1000) - n6)), .int .i64 0, .slice none 0 0] 3 h22 fun h23 =>
  I7 (IntKind.wrap .i64 (n7 + 1)) h23 ∧ M7 (IntKind.wrap .i64 (n7 + 1)) h23 < M7 n7 h22) else (
  onSome (some (⟨kb, 0, none⟩ : Addr)) fun p29 =>
  ∃ (sA29 : Option Addr) (sL29 : Nat) (sC29 : Nat), cellOf h22 (Addr.add p29 3) = some (.slice sA29 sL29 sC29) ∧
  onSome (some (⟨kb, 0, none⟩ : Addr)) fun p30 =>
  ∃ (sA30 : Option Addr) (sL30 : Nat) (sC30 : Nat), cellOf h22 (Addr.add p30 3) = some (.slice sA30 sL30 sC30) ∧
  (0 ≤ n6 ∧ n6 < (sL30 : Int)) ∧
  onSome sA30 fun p31 =>
  ∃ (sA31 : Option Addr) (sL31 : Nat) (sC31 : Nat), cellOf h22 (Addr.add p31 (Int.toNat n6)) = some (.slice sA31 sL31 sC31) ∧
  List.length ([.int .i64 (IntKind.wrap .i64 ((-1000) - n6)), .int .i64 0, .slice none 0 0] : List Value) = 3 ∧
  New [.int .i64 (IntKind.wrap .i64 ((-1000) - n6)), .int .i64 0, .slice none 0 0] 70 h22 fun h24 =>
  (cellOf h24 (Addr.add p29 3) = some (.slice sA29 sL29 sC29)) ∧
  (cellOf h24 (Addr.add p30 3) = some (.slice sA30 sL30 sC30)) ∧
  (cellOf h24 (Addr.add p31 (Int.toNat n6)) = some (.slice sA31 sL31 sC31)) ∧
  ∃ new4 : List Value, List.length new4 = 1 * 3 ∧ SlCells h24 (some ⟨h22.size, 0, none⟩) new4 ∧ (∀ v ∈ new4, v.oneCell' = true) ∧
  AppendP ti70 70 sA31 sL31 sC31 1 new4 h24 fun sA32 sL32 sC32 h25 =>
  (cellOf h25 (Addr.add p29 3) = some (.slice sA29 sL29 sC29)) ∧
  (0 ≤ n6 ∧ n6 < (sL29 : Int)) ∧
  onSome sA29 fun p32 =>
  Put (Addr.add p32 (Int.toNat n6)) (.slice sA32 sL32 sC32) h25 fun h26 =>
  I6 (IntKind.wrap .i64 (n6 + 1)) h26 ∧ M6 (IntKind.wrap .i64 (n6 + 1)) h26 < M6 n6 h21)) else (
  ∃ (I8 : Int → Heap → Prop) (M8 : Int → Heap → Nat), I8 0 h21 ∧
  ∀ (n8 : Int), ∀ h27 : Heap, I8 n8 h27 →
  bif (decide (n8 < (lL1 : Int))) then (
  (0 ≤ n8 ∧ n8 < (lL1 : Int)) ∧
  onSome lA1 fun p33 =>
  ∃ cs6 : List Value, List.length cs6 = 5 ∧ Cells h27 (Addr.add p33 ((Int.toNat n8) * 5)) cs6 ∧
  NewRow z117 117 cs6 5 h27 fun h29 =>
  ∃ (sA33 : Option Addr) (sL33 : Nat) (sC33 : Nat), cellOf h29 (Addr.add ⟨h27.size, 0, none⟩ 0) = some (.slice sA33 sL33 sC33) ∧
  ∃ (I9 : Int → Heap → Prop) (M9 : Int → Heap → Nat), I9 0 h29 ∧
  ∀ (n9 : Int), ∀ h30 : Heap, I9 n9 h30 →
  bif (decide (n9 < (sL33 : Int))) then (
  (0 ≤ n9 ∧ n9 < (sL33 : Int)) ∧
  onSome sA33 fun p34 =>
  ∃ (n10 : Int), cellOf h30 (Addr.add p34 (Int.toNat n9)) = some (.int .u8 n10) ∧
  ∃ (n11 : Int), cellOf h30 (Addr.add ⟨h27.size, 0, none⟩ 2) = some (.int .u8 n11) ∧
  bif (n10 != n11) then (
  K (.bool false) h30) else (
  I9 (IntKind.wrap .i64 (n9 + 1)) h30 ∧ M9 (IntKind.wrap .i64 (n9 + 1)) h30 < M9 n9 h30)) else (
  ∃ (sA34 : Option Addr) (sL34 : Nat) (sC34 : Nat), cellOf h30 (Addr.add ⟨h27.size, 0, none⟩ 0) = some (.slice sA34 sL34 sC34) ∧
  ∃ (n12 : Int), cellOf h30 (Addr.add ⟨h27.size, 0, none⟩ 1) = some (.int .i64 n12) ∧
  bif ((sL34 : Int) != (IntKind.wrap .i64 (n12 + 3))) then (
  K (.bool false) h30) else (
  I8 (IntKind.wrap .i64 (n8 + 1)) h30 ∧ M8 (IntKind.wrap .i64 (n8 + 1)) h30 < M8 n8 h27))) else (
  onSome (some (⟨kb, 0, none⟩ : Addr)) fun p35 =>
  ∃ (sA35 : Option Addr) (sL35 : Nat) (sC35 : Nat), cellOf h27 (Addr.add p35 1) = some (.slice sA35 sL35 sC35) ∧
  ∃ (I10 : Int → Heap → Prop) (M10 : Int → Heap → Nat), I10 0 h27 ∧
  ∀ (n13 : Int), ∀ h31 : Heap, I10 n13 h31 →
  bif (decide (n13 < (sL35 : Int))) then (
  onSome (some (⟨kb, 0, none⟩ : Addr)) fun p36 =>
  ∃ (sA36 : Option Addr) (sL36 : Nat) (sC36 : Nat), cellOf h31 (Addr.add p36 1) = some (.slice sA36 sL36 sC36) ∧
  (0 ≤ n13 ∧ n13 < (sL36 : Int)) ∧
  onSome sA36 fun p37 =>
  ∃ (sA37 : Option Addr) (sL37 : Nat) (sC37 : Nat), cellOf h31 (Addr.add p37 (Int.toNat n13)) = some (.slice sA37 sL37 sC37) ∧
  ∃ (I11 : Int → Heap → Prop) (M11 : Int → Heap → Nat), I11 0 h31 ∧
  ∀ (n14 : Int), ∀ h32 : Heap, I11 n14 h32 →
  bif (decide (n14 < (sL37 : Int))) then (
  (0 ≤ n14 ∧ n14 < (sL37 : Int)) ∧
  onSome sA37 fun p38 =>
  ∃ (n15 : Int), cellOf h32 (Addr.add p38 (Int.toNat n14)) = some (.int .i64 n15) ∧
  bif (n15 != (IntKind.wrap .i64 ((-1000) - n13))) then (
  K (.bool false) h32) else (
  I11 (IntKind.wrap .i64 (n14 + 1)) h32 ∧ M11 (IntKind.wrap .i64 (n14 + 1)) h32 < M11 n14 h32)) else (
  I10 (IntKind.wrap .i64 (n13 + 1)) h32 ∧ M10 (IntKind.wrap .i64 (n13 + 1)) h32 < M10 n13 h31)) else (
  onSome (some (⟨kb, 0, none⟩ : Addr)) fun p39 =>
  ∃ (sA38 : Option Addr) (sL38 : Nat) (sC38 : Nat), cellOf h31 (Addr.add p39 3) = some (.slice sA38 sL38 sC38) ∧
  ∃ (I12 : Int → Heap → Prop) (M12 : Int → Heap → Nat), I12 0 h31 ∧
  ∀ (n16 : Int), ∀ h33 : Heap, I12 n16 h33 →
  bif (decide (n16 < (sL38 : Int))) then (
  onSome (some (⟨kb, 0, none⟩ : Addr)) fun p40 =>
  ∃ (sA39 : Option Addr) (sL39 : Nat) (sC39 : Nat), cellOf h33 (Addr.add p40 3) = some (.slice sA39 sL39 sC39) ∧
  (0 ≤ n16 ∧ n16 < (sL39 : Int)) ∧
  onSome sA39 fun p41 =>
  ∃ (sA40 : Option Addr) (sL40 : Nat) (sC40 : Nat), cellOf h33 (Addr.add p41 (Int.toNat n16)) = some (.slice sA40 sL40 sC40) ∧
  ∃ (I13 : Int → Heap → Prop) (M13 : Int → Heap → Nat), I13 0 h33 ∧
  ∀ (n17 : Int), ∀ h34 : Heap, I13 n17 h34 →
  bif (decide (n17 < (sL40 : Int))) then (
  (0 ≤ n17 ∧ n17 < (sL40 : Int)) ∧
  onSome sA40 fun p42 =>
  ∃ cs7 : List Value, List.length cs7 = 3 ∧ Cells h34 (Addr.add p42 ((Int.toNat n17) * 3)) cs7 ∧
  NewRow z70 70 cs7 3 h34 fun h36 =>
  ∃ (n18 : Int), cellOf h36 (Addr.add ⟨h34.size, 0, none⟩ 0) = some (.int .i64 n18) ∧
  bif (n18 != (IntKind.wrap .i64 ((-1000) - n16))) then (
  K (.bool false) h36) else (
  I13 (IntKind.wrap .i64 (n17 + 1)) h36 ∧ M13 (IntKind.wrap .i64 (n17 + 1)) h36 < M13 n17 h34)) else (
  I12 (IntKind.wrap .i64 (n16 + 1)) h34 ∧ M12 (IntKind.wrap .i64 (n16 + 1)) h34 < M12 n16 h33)) else (
  K (.bool true) h33)))))
def holdsC (kb : Nat) (lA1 : Option Addr) (lL1 : Nat) (h15 : Heap) (K : Value → Heap → Prop) : Prop :=
  onSome (some (⟨kb, 0, none⟩ : Addr)) fun p23 =>
  ∃ (sA24 : Option Addr) (sL24 : Nat) (sC24 : Nat), cellOf h15 (Addr.add p23 3) = some (.slice sA24 sL24 sC24) ∧
  ∃ (I6 : Int → Heap → Prop) (M6 : Int → Heap → Nat), I6 0 h15 ∧
  ∀ (n6 : Int), ∀ h21 : Heap, I6 n6 h21 →
  bif (decide (n6 < (sL24 : Int))) then (
  onSome (some (⟨kb, 0, none⟩ : Addr)) fun p24 =>
  ∃ (sA25 : Option Addr) (sL25 : Nat) (sC25 : Nat), cellOf h21 (Addr.add p24 3) = some (.slice sA25 sL25 sC25) ∧
  (0 ≤ n6 ∧ n6 < (sL25 : Int)) ∧
  onSome sA25 fun p25 =>
  ∃ (sA26 : Option Addr) (sL26 : Nat) (sC26 : Nat), cellOf h21 (Addr.add p25 (Int.toNat n6)) = some (.slice sA26 sL26 sC26) ∧
  ∃ (I7 : Int → Heap → Prop) (M7 : Int → Heap → Nat), I7 0 h21 ∧
  ∀ (n7 : Int), ∀ h22 : Heap, I7 n7 h22 →
  bif (decide (n7 < (sL26 : Int))) then (
  onSome (some (⟨kb, 0, none⟩ : Addr)) fun p26 =>
  ∃ (sA27 : Option Addr) (sL27 : Nat) (sC27 : Nat), cellOf h22 (Addr.add p26 3) = some (.slice sA27 sL27 sC27) ∧
  (0 ≤ n6 ∧ n6 < (sL27 : Int)) ∧
  onSome sA27 fun p27 =>
  ∃ (sA28 : Option Addr) (sL28 : Nat) (sC28 : Nat), cellOf h22 (Addr.add p27 (Int.toNat n6)) = some (.slice sA28 sL28 sC28) ∧
  (0 ≤ n7 ∧ n7 < (sL28 : Int)) ∧
  onSome sA28 fun p28 =>
  PutRow (Addr.add p28 ((Int.toNat n7) * 3)) [.int .i64 (IntKind.wrap .i64 ((-1000) - n6)), .int .i64 0, .slice none 0 0] 3 h22 fun h23 =>
  I7 (IntKind.wrap .i64 (n7 + 1)) h23 ∧ M7 (IntKind.wrap .i64 (n7 + 1)) h23 < M7 n7 h22) else (
  onSome (some (⟨kb, 0, none⟩ : Addr)) fun p29 =>
  ∃ (sA29 : Option Addr) (sL29 : Nat) (sC29 : Nat), cellOf h22 (Addr.add p29 3) = some (.slice sA29 sL29 sC29) ∧
  onSome (some (⟨kb, 0, none⟩ : Addr)) fun p30 =>
  ∃ (sA30 : Option Addr) (sL30 : Nat) (sC30 : Nat), cellOf h22 (Addr.add p30 3) = some (.slice sA30 sL30 sC30) ∧
  (0 ≤ n6 ∧ n6 < (sL30 : Int)) ∧
  onSome sA30 fun p31 =>
  ∃ (sA31 : Option Addr) (sL31 : Nat) (sC31 : Nat), cellOf h22 (Addr.add p31 (Int.toNat n6)) = some (.slice sA31 sL31 sC31) ∧
  List.length ([.int .i64 (IntKind.wrap .i64 ((-1000) - n6)), .int .i64 0, .slice none 0 0] : List Value) = 3 ∧
  New [.int .i64 (IntKind.wrap .i64 ((-1000) - n6)), .int .i64 0, .slice none 0 0] 70 h22 fun h24 =>
  (cellOf h24 (Addr.add p29 3) = some (.slice sA29 sL29 sC29)) ∧
  (cellOf h24 (Addr.add p30 3) = some (.slice sA30 sL30 sC30)) ∧
  (cellOf h24 (Addr.add p31 (Int.toNat n6)) = some (.slice sA31 sL31 sC31)) ∧
  ∃ new4 : List Value, List.length new4 = 1 * 3 ∧ SlCells h24 (some ⟨h22.size, 0, none⟩) new4 ∧ (∀ v ∈ new4, v.oneCell' = true) ∧
  AppendP ti70 70 sA31 sL31 sC31 1 new4 h24 fun sA32 sL32 sC32 h25 =>
  (cellOf h25 (Addr.add p29 3) = some (.slice sA29 sL29 sC29)) ∧
  (0 ≤ n6 ∧ n6 < (sL29 : Int)) ∧
  onSome sA29 fun p32 =>
  Put (Addr.add p32 (Int.toNat n6)) (.slice sA32 sL32 sC32) h25 fun h26 =>
  I6 (IntKind.wrap .i64 (n6 + 1)) h26 ∧ M6 (IntKind.wrap .i64 (n6 + 1)) h26 < M6 n6 h21)) else (
  ∃ (I8 : Int → Heap → Prop) (M8 : Int → Heap → Nat), I8 0 h21 ∧
  ∀ (n8 : Int), ∀ h27 : Heap, I8 n8 h27 →
  bif (decide (n8 < (lL1 : Int))) then (
  (0 ≤ n8 ∧ n8 < (lL1 : Int)) ∧
  onSome lA1 fun p33 =>
  ∃ cs6 : List Value, List.length cs6 = 5 ∧ Cells h27 (Addr.add p33 ((Int.toNat n8) * 5)) cs6 ∧
  NewRow z117 117 cs6 5 h27 fun h29 =>
  ∃ (sA33 : Option Addr) (sL33 : Nat) (sC33 : Nat), cellOf h29 (Addr.add ⟨h27.size, 0, none⟩ 0) = some (.slice sA33 sL33 sC33) ∧
  ∃ (I9 : Int → Heap → Prop) (M9 : Int → Heap → Nat), I9 0 h29 ∧
  ∀ (n9 : Int), ∀ h30 : Heap, I9 n9 h30 →
  bif (decide (n9 < (sL33 : Int))) then (
  (0 ≤ n9 ∧ n9 < (sL33 : Int)) ∧
  onSome sA33 fun p34 =>
  ∃ (n10 : Int), cellOf h30 (Addr.add p34 (Int.toNat n9)) = some (.int .u8 n10) ∧
  ∃ (n11 : Int), cellOf h30 (Addr.add ⟨h27.size, 0, none⟩ 2) = some (.int .u8 n11) ∧
  bif (n10 != n11) then (
  K (.bool false) h30) else (
  I9 (IntKind.wrap .i64 (n9 + 1)) h30 ∧ M9 (IntKind.wrap .i64 (n9 + 1)) h30 < M9 n9 h30)) else (
  ∃ (sA34 : Option Addr) (sL34 : Nat) (sC34 : Nat), cellOf h30 (Addr.add ⟨h27.size, 0, none⟩ 0) = some (.slice sA34 sL34 sC34) ∧
  ∃ (n12 : Int), cellOf h30 (Addr.add ⟨h27.size, 0, none⟩ 1) = some (.int .i64 n12) ∧
  bif ((sL34 : Int) != (IntKind.wrap .i64 (n12 + 3))) then (
  K (.bool false) h30) else (
  I8 (IntKind.wrap .i64 (n8 + 1)) h30 ∧ M8 (IntKind.wrap .i64 (n8 + 1)) h30 < M8 n8 h27))) else (
  onSome (some (⟨kb, 0, none⟩ : Addr)) fun p35 =>
  ∃ (sA35 : Option Addr) (sL35 : Nat) (sC35 : Nat), cellOf h27 (Addr.add p35 1) = some (.slice sA35 sL35 sC35) ∧
  ∃ (I10 : Int → Heap → Prop) (M10 : Int → Heap → Nat), I10 0 h27 ∧
  ∀ (n13 : Int), ∀ h31 : Heap, I10 n13 h31 →
  bif (decide (n13 < (sL35 : Int))) then (
  onSome (some (⟨kb, 0, none⟩ : Addr)) fun p36 =>
  ∃ (sA36 : Option Addr) (sL36 : Nat) (sC36 : Nat), cellOf h31 (Addr.add p36 1) = some (.slice sA36 sL36 sC36) ∧
  (0 ≤ n13 ∧ n13 < (sL36 : Int)) ∧
  onSome sA36 fun p37 =>
  ∃ (sA37 : Option Addr) (sL37 : Nat) (sC37 : Nat), cellOf h31 (Addr.add p37 (Int.toNat n13)) = some (.slice sA37 sL37 sC37) ∧
  ∃ (I11 : Int → Heap → Prop) (M11 : Int → Heap → Nat), I11 0 h31 ∧
  ∀ (n14 : Int), ∀ h32 : Heap, I11 n14 h32 →
  bif (decide (n14 < (sL37 : Int))) then (
  (0 ≤ n14 ∧ n14 < (sL37 : Int)) ∧
  onSome sA37 fun p38 =>
  ∃ (n15 : Int), cellOf h32 (Addr.add p38 (Int.toNat n14)) = some (.int .i64 n15) ∧
  bif (n15 != (IntKind.wrap .i64 ((-1000) - n13))) then (
  K (.bool false) h32) else (
  I11 (IntKind.wrap .i64 (n14 + 1)) h32 ∧ M11 (IntKind.wrap .i64 (n14 + 1)) h32 < M11 n14 h32)) else (
  I10 (IntKind.wrap .i64 (n13 + 1)) h32 ∧ M10 (IntKind.wrap .i64 (n13 + 1)) h32 < M10 n13 h31)) else (
  onSome (some (⟨kb, 0, none⟩ : Addr)) fun p39 =>
  ∃ (sA38 : Option Addr) (sL38 : Nat) (sC38 : Nat), cellOf h31 (Addr.add p39 3) = some (.slice sA38 sL38 sC38) ∧
  ∃ (I12 : Int → Heap → Prop) (M12 : Int → Heap → Nat), I12 0 h31 ∧
  ∀ (n16 : Int), ∀ h33 : Heap, I12 n16 h33 →
  bif (decide (n16 < (sL38 : Int))) then (
  onSome (some (⟨kb, 0, none⟩ : Addr)) fun p40 =>
  ∃ (sA39 : Option Addr) (sL39 : Nat) (sC39 : Nat), cellOf h33 (Addr.add p40 3) = some (.slice sA39 sL39 sC39) ∧
  (0 ≤ n16 ∧ n16 < (sL39 : Int)) ∧
  onSome sA39 fun p41 =>
  ∃ (sA40 : Option Addr) (sL40 : Nat) (sC40 : Nat), cellOf h33 (Addr.add p41 (Int.toNat n16)) = some (.slice sA40 sL40 sC40) ∧
  ∃ (I13 : Int → Heap → Prop) (M13 : Int → Heap → Nat), I13 0 h33 ∧
  ∀ (n17 : Int), ∀ h34 : Heap, I13 n17 h34 →
  bif (decide (n17 < (sL40 : Int))) then (
  (0 ≤ n17 ∧ n17 < (sL40 : Int)) ∧
  onSome sA40 fun p42 =>
  ∃ cs7 : List Value, List.length cs7 = 3 ∧ Cells h34 (Addr.add p42 ((Int.toNat n17) * 3)) cs7 ∧
  NewRow z70 70 cs7 3 h34 fun h36 =>
  ∃ (n18 : Int), cellOf h36 (Addr.add ⟨h34.size, 0, none⟩ 0) = some (.int .i64 n18) ∧
  bif (n18 != (IntKind.wrap .i64 ((-1000) - n16))) then (
  K (.bool false) h36) else (
  I13 (IntKind.wrap .i64 (n17 + 1)) h36 ∧ M13 (IntKind.wrap .i64 (n17 + 1)) h36 < M13 n17 h34)) else (
  I12 (IntKind.wrap .i64 (n16 + 1)) h34 ∧ M12 (IntKind.wrap .i64 (n16 + 1)) h34 < M12 n16 h33)) else (
  K (.bool true) h33))))
def holdsD (kb : Nat) (lA1 : Option Addr) (lL1 : Nat) (h21 : Heap) (K : Value → Heap → Prop) : Prop :=
  ∃ (I8 : Int → Heap → Prop) (M8 : Int → Heap → Nat), I8 0 h21 ∧
  ∀ (n8 : Int), ∀ h27 : Heap, I8 n8 h27 →
  bif (decide (n8 < (lL1 : Int))) then (
  (0 ≤ n8 ∧ n8 < (lL1 : Int)) ∧
  onSome lA1 fun p33 =>
  ∃ cs6 : List Value, List.length cs6 = 5 ∧ Cells h27 (Addr.add p33 ((Int.toNat n8) * 5)) cs6 ∧
  NewRow z117 117 cs6 5 h27 fun h29 =>
  ∃ (sA33 : Option Addr) (sL33 : Nat) (sC33 : Nat), cellOf h29 (Addr.add ⟨h27.size, 0, none⟩ 0) = some (.slice sA33 sL33 sC33) ∧
  ∃ (I9 : Int → Heap → Prop) (M9 : Int → Heap → Nat), I9 0 h29 ∧
  ∀ (n9 : Int), ∀ h30 : Heap, I9 n9 h30 →
  bif (decide (n9 < (sL33 : Int))) then (
  (0 ≤ n9 ∧ n9 < (sL33 : Int)) ∧
  onSome sA33 fun p34 =>
  ∃ (n10 : Int), cellOf h30 (Addr.add p34 (Int.toNat n9)) = some (.int .u8 n10) ∧
  ∃ (n11 : Int), cellOf h30 (Addr.add ⟨h27.size, 0, none⟩ 2) = some (.int .u8 n11) ∧
  bif (n10 != n11) then (
  K (.bool false) h30) else (
  I9 (IntKind.wrap .i64 (n9 + 1)) h30 ∧ M9 (IntKind.wrap .i64 (n9 + 1)) h30 < M9 n9 h30)) else (
  ∃ (sA34 : Option Addr) (sL34 : Nat) (sC34 : Nat), cellOf h30 (Addr.add ⟨h27.size, 0, none⟩ 0) = some (.slice sA34 sL34 sC34) ∧
  ∃ (n12 : Int), cellOf h30 (Addr.add ⟨h27.size, 0, none⟩ 1) = some (.int .i64 n12) ∧
  bif ((sL34 : Int) != (IntKind.wrap .i64 (n12 + 3))) then (
  K (.bool false) h30) else (
  I8 (IntKind.wrap .i64 (n8 + 1)) h30 ∧ M8 (IntKind.wrap .i64 (n8 + 1)) h30 < M8 n8 h27))) else (
  onSome (some (⟨kb, 0, none⟩ : Addr)) fun p35 =>
  ∃ (sA35 : Option Addr) (sL35 : Nat) (sC35 : Nat), cellOf h27 (Addr.add p35 1) = some (.slice sA35 sL35 sC35) ∧
  ∃ (I10 : Int → Heap → Prop) (M10 : Int → Heap → Nat), I10 0 h27 ∧
  ∀ (n13 : Int), ∀ h31 : Heap, I10 n13 h31 →
  bif (decide (n13 < (sL35 : Int))) then (
  onSome (some (⟨kb, 0, none⟩ : Addr)) fun p36 =>
  ∃ (sA36 : Option Addr) (sL36 : Nat) (sC36 : Nat), cellOf h31 (Addr.add p36 1) = some (.slice sA36 sL36 sC36) ∧
  (0 ≤ n13 ∧ n13 < (sL36 : Int)) ∧
  onSome sA36 fun p37 =>
  ∃ (sA37 : Option Addr) (sL37 : Nat) (sC37 : Nat), cellOf h31 (Addr.add p37 (Int.toNat n13)) = some (.slice sA37 sL37 sC37) ∧
  ∃ (I11 : Int → Heap → Prop) (M11 : Int → Heap → Nat), I11 0 h31 ∧
  ∀ (n14 : Int), ∀ h32 : Heap, I11 n14 h32 →
  bif (decide (n14 < (sL37 : Int))) then (
  (0 ≤ n14 ∧ n14 < (sL37 : Int)) ∧
  onSome sA37 fun p38 =>
  ∃ (n15 : Int), cellOf h32 (Addr.add p38 (Int.toNat n14)) = some (.int .i64 n15) ∧
  bif (n15 != (IntKind.wrap .i64 ((-1000) - n13))) then (
  K (.bool false) h32) else (
  I11 (IntKind.wrap .i64 (n14 + 1)) h32 ∧ M11 (IntKind.wrap .i64 (n14 + 1)) h32 < M11 n14 h32)) else (
  I10 (IntKind.wrap .i64 (n13 + 1)) h32 ∧ M10 (IntKind.wrap .i64 (n13 + 1)) h32 < M10 n13 h31)) else (
  onSome (some (⟨kb, 0, none⟩ : Addr)) fun p39 =>
  ∃ (sA38 : Option Addr) (sL38 : Nat) (sC38 : Nat), cellOf h31 (Addr.add p39 3) = some (.slice sA38 sL38 sC38) ∧
  ∃ (I12 : Int → Heap → Prop) (M12 : Int → Heap → Nat), I12 0 h31 ∧
  ∀ (n16 : Int), ∀ h33 : Heap, I12 n16 h33 →
  bif (decide (n16 < (sL38 : Int))) then (
  onSome (some (⟨kb, 0, none⟩ : Addr)) fun p40 =>
  ∃ (sA39 : Option Addr) (sL39 : Nat) (sC39 : Nat), cellOf h33 (Addr.add p40 3) = some (.slice sA39 sL39 sC39) ∧
  (0 ≤ n16 ∧ n16 < (sL39 : Int)) ∧
  onSome sA39 fun p41 =>
  ∃ (sA40 : Option Addr) (sL40 : Nat) (sC40 : Nat), cellOf h33 (Addr.add p41 (Int.toNat n16)) = some (.slice sA40 sL40 sC40) ∧
  ∃ (I13 : Int → Heap → Prop) (M13 : Int → Heap → Nat), I13 0 h33 ∧
  ∀ (n17 : Int), ∀ h34 : Heap, I13 n17 h34 →
  bif (decide (n17 < (sL40 : Int))) then (
  (0 ≤ n17 ∧ n17 < (sL40 : Int)) ∧
  onSome sA40 fun p42 =>
  ∃ cs7 : List Value, List.length cs7 = 3 ∧ Cells h34 (Addr.add p42 ((Int.toNat n17) * 3)) cs7 ∧
  NewRow z70 70 cs7 3 h34 fun h36 =>
  ∃ (n18 : Int), cellOf h36 (Addr.add ⟨h34.size, 0, none⟩ 0) = some (.int .i64 n18) ∧
  bif (n18 != (IntKind.wrap .i64 ((-1000) - n16))) then (
  K (.bool false) h36) else (
  I13 (IntKind.wrap .i64 (n17 + 1)) h36 ∧ M13 (IntKind.wrap .i64 (n17 + 1)) h36 < M13 n17 h34)) else (
  I12 (IntKind.wrap .i64 (n16 + 1)) h34 ∧ M12 (IntKind.wrap .i64 (n16 + 1)) h34 < M12 n16 h33)) else (
  K (.bool true) h33)))
def holdsE (kb : Nat) (lA1 : Option Addr) (lL1 : Nat) (h27 : Heap) (K : Value → Heap → Prop) : Prop :=
  onSome (some (⟨kb, 0, none⟩ : Addr)) fun p35 =>
  ∃ (sA35 : Option Addr) (sL35 : Nat) (sC35 : Nat), cellOf h27 (Addr.add p35 1) = some (.slice sA35 sL35 sC35) ∧
  ∃ (I10 : Int → Heap → Prop) (M10 : Int → Heap → Nat), I10 0 h27 ∧
  ∀ (n13 : Int), ∀ h31 : Heap, I10 n13 h31 →
  bif (decide (n13 < (sL35 : Int))) then (
  onSome (some (⟨kb, 0, none⟩ : Addr)) fun p36 =>
  ∃ (sA36 : Option Addr) (sL36 : Nat) (sC36 : Nat), cellOf h31 (Addr.add p36 1) = some (.slice sA36 sL36 sC36) ∧
  (0 ≤ n13 ∧ n13 < (sL36 : Int)) ∧
  onSome sA36 fun p37 =>
  ∃ (sA37 : Option Addr) (sL37 : Nat) (sC37 : Nat), cellOf h31 (Addr.add p37 (Int.toNat n13)) = some (.slice sA37 sL37 sC37) ∧
  ∃ (I11 : Int → Heap → Prop) (M11 : Int → Heap → Nat), I11 0 h31 ∧
  ∀ (n14 : Int), ∀ h32 : Heap, I11 n14 h32 →
  bif (decide (n14 < (sL37 : Int))) then (
  (0 ≤ n14 ∧ n14 < (sL37 : Int)) ∧
  onSome sA37 fun p38 =>
  ∃ (n15 : Int), cellOf h32 (Addr.add p38 (Int.toNat n14)) = some (.int .i64 n15) ∧
  bif (n15 != (IntKind.wrap .i64 ((-1000) - n13))) then (
  K (.bool false) h32) else (
  I11 (IntKind.wrap .i64 (n14 + 1)) h32 ∧ M11 (IntKind.wrap .i64 (n14 + 1)) h32 < M11 n14 h32)) else (
  I10 (IntKind.wrap .i64 (n13 + 1)) h32 ∧ M10 (IntKind.wrap .i64 (n13 + 1)) h32 < M10 n13 h31)) else (
  onSome (some (⟨kb, 0, none⟩ : Addr)) fun p39 =>
  ∃ (sA38 : Option Addr) (sL38 : Nat) (sC38 : Nat), cellOf h31 (Addr.add p39 3) = some (.slice sA38 sL38 sC38) ∧
  ∃ (I12 : Int → Heap → Prop) (M12 : Int → Heap → Nat), I12 0 h31 ∧
  ∀ (n16 : Int), ∀ h33 : Heap, I12 n16 h33 →
  bif (decide (n16 < (sL38 : Int))) then (
  onSome (some (⟨kb, 0, none⟩ : Addr)) fun p40 =>
  ∃ (sA39 : Option Addr) (sL39 : Nat) (sC39 : Nat), cellOf h33 (Addr.add p40 3) = some (.slice sA39 sL39 sC39) ∧
  (0 ≤ n16 ∧ n16 < (sL39 : Int)) ∧
  onSome sA39 fun p41 =>
  ∃ (sA40 : Option Addr) (sL40 : Nat) (sC40 : Nat), cellOf h33 (Addr.add p41 (Int.toNat n16)) = some (.slice sA40 sL40 sC40) ∧
  ∃ (I13 : Int → Heap → Prop) (M13 : Int → Heap → Nat), I13 0 h33 ∧
  ∀ (n17 : Int), ∀ h34 : Heap, I13 n17 h34 →
  bif (decide (n17 < (sL40 : Int))) then (
  (0 ≤ n17 ∧ n17 < (sL40 : Int)) ∧
  onSome sA40 fun p42 =>
  ∃ cs7 : List Value, List.length cs7 = 3 ∧ Cells h34 (Addr.add p42 ((Int.toNat n17) * 3)) cs7 ∧
  NewRow z70 70 cs7 3 h34 fun h36 =>
  ∃ (n18 : Int), cellOf h36 (Addr.add ⟨h34.size, 0, none⟩ 0) = some (.int .i64 n18) ∧
  bif (n18 != (IntKind.wrap .i64 ((-1000) - n16))) then (
  K (.bool false) h36) else (
  I13 (IntKind.wrap .i64 (n17 + 1)) h36 ∧ M13 (IntKind.wrap .i64 (n17 + 1)) h36 < M13 n17 h34)) else (
  I12 (IntKind.wrap .i64 (n16 + 1)) h34 ∧ M12 (IntKind.wrap .i64 (n16 + 1)) h34 < M12 n16 h33)) else (
  K (.bool true) h33))
def holdsF (kb : Nat) (lA1 : Option Addr) (lL1 : Nat) (h31 : Heap) (K : Value → Heap → Prop) : Prop :=
  onSome (some (⟨kb, 0, none⟩ : Addr)) fun p39 =>
  ∃ (sA38 : Option Addr) (sL38 : Nat) (sC38 : Nat), cellOf h31 (Addr.add p39 3) = some (.slice sA38 sL38 sC38) ∧
  ∃ (I12 : Int → Heap → Prop) (M12 : Int → Heap → Nat), I12 0 h31 ∧
  ∀ (n16 : Int), ∀ h33 : Heap, I12 n16 h33 →
  bif (decide (n16 < (sL38 : Int))) then (
  onSome (some (⟨kb, 0, none⟩ : Addr)) fun p40 =>
  ∃ (sA39 : Option Addr) (sL39 : Nat) (sC39 : Nat), cellOf h33 (Addr.add p40 3) = some (.slice sA39 sL39 sC39) ∧
  (0 ≤ n16 ∧ n16 < (sL39 : Int)) ∧
  onSome sA39 fun p41 =>
  ∃ (sA40 : Option Addr) (sL40 : Nat) (sC40 : Nat), cellOf h33 (Addr.add p41 (Int.toNat n16)) = some (.slice sA40 sL40 sC40) ∧
  ∃ (I13 : Int → Heap → Prop) (M13 : Int → Heap → Nat), I13 0 h33 ∧
  ∀ (n17 : Int), ∀ h34 : Heap, I13 n17 h34 →
  bif (decide (n17 < (sL40 : Int))) then (
  (0 ≤ n17 ∧ n17 < (sL40 : Int)) ∧
  onSome sA40 fun p42 =>
  ∃ cs7 : List Value, List.length cs7 = 3 ∧ Cells h34 (Addr.add p42 ((Int.toNat n17) * 3)) cs7 ∧
  NewRow z70 70 cs7 3 h34 fun h36 =>
  ∃ (n18 : Int), cellOf h36 (Addr.add ⟨h34.size, 0, none⟩ 0) = some (.int .i64 n18) ∧
  bif (n18 != (IntKind.wrap .i64 ((-1000) - n16))) then (
  K (.bool false) h36) else (
  I13 (IntKind.wrap .i64 (n17 + 1)) h36 ∧ M13 (IntKind.wrap .i64 (n17 + 1)) h36 < M13 n17 h34)) else (
  I12 (IntKind.wrap .i64 (n16 + 1)) h34 ∧ M12 (IntKind.wrap .i64 (n16 + 1)) h34 < M12 n16 h33)) else (
  K (.bool true) h33)
theorem sameKinds_ent {a b : Option Addr} {l c e : Nat} {es ws : List Ent} {h : Heap} {K : Value → Heap → Prop} (A : SlCells h a (es.flatMap Ent.cells)) (B : SlCells h b (ws.flatMap Ent.cells)) (h1 : es.length = l) (h2 : ws.length = l) (hl : l ≤ 1000000000000) (sm : ∀ j (h1 : j < es.length) (h2 : j < ws.length), es[j].kind = ws[j].kind ∧ es[j].at_ = ws[j].at_) (hK : K (.bool true) h) : C.bolelaw03_sameKinds a l c b l e h K := by
  refine bolelaw03_sameKinds.ok (cn (fun x => absurd rfl x) fun _ => ?_)
  refine ⟨fun n hh => 0 ≤ n ∧ n ≤ l ∧ hh = h, fun n _ => ((l : Int) - n).toNat, ⟨by omega, by omega, rfl⟩, ?_⟩
  rintro n _ ⟨n0, n1, rfl⟩
  refine cd (fun hn => ?_) fun _ => hK
  obtain ⟨p, rfl, cp⟩ := row_part A (i := n.toNat) (by omega)
  obtain ⟨q, rfl, cq⟩ := row_part B (i := n.toNat) (by omega)
  obtain ⟨x1, x2⟩ := sm n.toNat (by omega) (by omega)
  refine ⟨⟨n0, hn⟩, os ⟨_, Cells.cell cp (i := 0) rfl, ⟨n0, by omega⟩, os ⟨_, Cells.cell cq (i := 0) rfl, cn (fun x => absurd x1 x) fun _ => ?_⟩⟩⟩
  refine ⟨⟨n0, hn⟩, os ⟨_, Cells.cell cp (i := 1) rfl, ⟨n0, by omega⟩, os ⟨_, Cells.cell cq (i := 1) rfl, cn (fun x => absurd x2 x) fun _ => ?_⟩⟩⟩
  rw [wrap_i64 (by omega) (by omega)]
  exact ⟨⟨by omega, by omega, rfl⟩, by show ((l : Int) - (n + 1)).toNat < ((l : Int) - n).toNat; omega⟩
/-- a slice of a row of slices -/
theorem row_at {α : Type} {h : Heap} {a : Option Addr} {f : α → List Value} {xs : List α} (A : SlCells h a (xs.flatMap f)) (hw : ∀ x, (f x).length = 1) {j : Nat} (hj : j < xs.length) {v : Value} (hv : f xs[j] = [v]) : ∃ p, a = some p ∧ cellOf h (p.add j) = some v := by
  have hl := flat_length f 1 xs fun x _ => hw x
  cases a with
  | none => have A : xs.flatMap f = [] := A; rw [A] at hl; exact absurd hl (by simp; omega)
  | some p =>
    refine ⟨p, rfl, ?_⟩
    have := Cells.part A (j * 1) 1
    rw [flat_part f 1 xs (fun x _ => hw x) j hj, hv, Nat.mul_one] at this
    have := Cells.cell this (i := 0) rfl
    rw [Addr.add_zero] at this
    exact this
end Go.Proofs.Ytnbfaokpaiiojaa.Ap
/-
  bolelaw03.AdiskPlays: the book's end, its first part: all compared, the bytes grown.
-/
namespace Go.Proofs.Ytnbfaokpaiiojaa.Ap
open Go Go.Proofs Go.Proofs.Ytnbfaokpaiiojaa.Wx Go.Proofs.Ytnbfaokpaiiojaa.Hp Go.Proofs.Ytnbfaokpaiiojaa.W Go.Proofs.Ytnbfaokpaiiojaa.Ad Go.Proofs.Ytnbfaokpaiiojaa.L3 Go.Proofs.Ytnbfaokpaiiojaa.Rf

section
variable {h : Heap} {col : Nat → Nat} {kb c : Nat} {xs : List Hb} {is : List Li} {ats : List La} {K : Value → Heap → Prop}
theorem intsV_len {h : Heap} {a : Option Addr} {l c : Nat} {vs : List Int} {F : Nat → Prop} (s : Sl h 1 a l c (intsV vs) F) : vs.length = l := by
  have := s.1
  unfold intsV at this
  rw [List.length_map] at this; omega
theorem row_part5 {h : Heap} {a : Option Addr} {xs : List Hb} (A : SlCells h a (xs.flatMap Hb.cells)) {j : Nat} (hj : j < xs.length) : ∃ p, a = some p ∧ Cells h (p.add (j * 5)) xs[j].cells := by
  have hl := flat_length Hb.cells 5 xs fun _ _ => rfl
  cases a with
  | none => have A : xs.flatMap Hb.cells = [] := A; rw [A] at hl; exact absurd hl (by simp; omega)
  | some p =>
    refine ⟨p, rfl, ?_⟩
    have := Cells.part A (j * 5) 5
    rw [flat_part Hb.cells 5 xs (fun _ _ => rfl) j hj] at this
    exact this
theorem holdsA (B : Bk h col kb xs is ats c) (hc : c < 1000000000000)
    (hB : ∀ ra rc la lc hh col' ys, Gj h col kb xs is ats ra rc xs.length xs.length hh la xs.length lc col' ys → holdsB kb la xs.length hh K) : C.bolelaw03_Book_holds (some ⟨kb, 0, none⟩) h K := by
  obtain ⟨ba, bc, ia, ic, ta, tc, aa, ac, wa, wc, r0, s1, s2, s3, s4, s5⟩ := B.rows
  have nx := B.nx
  have ni := B.ni
  have na := B.na
  refine bolelaw03_Book_holds.ok (os ⟨_, _, _, rda r0 rfl, ?_⟩)
  refine ⟨fun i hh => ∃ j : Nat, i = j ∧ j ≤ is.length ∧ h = hh, fun i _ => ((is.length : Int) - i).toNat, ⟨0, rfl, Nat.zero_le _, rfl⟩, ?_⟩
  rintro i _ ⟨j, ei, hj, rfl⟩
  refine cd (fun hlt => ?_) fun _ => ?_
  · have hj' : j < is.length := by omega
    have ein : i.toNat = j := by omega
    obtain ⟨p, ep, cp⟩ := row_at (f := Li.v) s2.cells (fun _ => rfl) hj' rfl
    obtain ⟨q, eq, cq⟩ := row_at (f := Li.t) s3.cells (fun _ => rfl) hj' rfl
    have o := B.bi j hj'
    have omx := o.max
    rw [ein, wrap_i64 (n := i + 1) (by omega) (by omega)]
    refine os ⟨_, _, _, rda r0 rfl, ⟨by omega, hlt⟩, ?_⟩
    rw [ep]
    refine os ⟨_, _, _, cp, os ⟨_, _, _, rda r0 rfl, ⟨by omega, hlt⟩, ?_⟩⟩
    rw [eq]
    exact os ⟨_, _, _, cq, sameInts_spec o.s.cells o.t.cells (intsV_len o.s) (intsV_len o.s) omx ⟨_, rfl, cnot (ct rfl ⟨⟨j + 1, by omega, hj', rfl⟩, by show ((is.length : Int) - (i + 1)).toNat < ((is.length : Int) - i).toNat; omega⟩)⟩⟩
  refine os ⟨_, _, _, rda r0 rfl, ?_⟩
  refine ⟨fun i hh => ∃ j : Nat, i = j ∧ j ≤ ats.length ∧ h = hh, fun i _ => ((ats.length : Int) - i).toNat, ⟨0, rfl, Nat.zero_le _, rfl⟩, ?_⟩
  rintro i2 _ ⟨j2, ei2, hj2, rfl⟩
  refine cd (fun hlt => ?_) fun _ => ?_
  · have hj' : j2 < ats.length := by omega
    have ein : i2.toNat = j2 := by omega
    obtain ⟨p, ep, cp⟩ := row_at (f := La.v) s4.cells (fun _ => rfl) hj' rfl
    obtain ⟨q, eq, cq⟩ := row_at (f := La.t) s5.cells (fun _ => rfl) hj' rfl
    have o := B.ba j2 hj'
    have omx := o.max
    rw [ein, wrap_i64 (n := i2 + 1) (by omega) (by omega)]
    refine os ⟨_, _, _, rda r0 rfl, ⟨by omega, hlt⟩, ?_⟩
    rw [ep]
    refine os ⟨_, _, _, cp, os ⟨_, _, _, rda r0 rfl, ⟨by omega, hlt⟩, ?_⟩⟩
    rw [eq]
    exact os ⟨_, _, _, cq, sameKinds_ent o.s.cells o.t.cells o.e.1 o.e.2 omx o.same ⟨_, rfl, cnot (ct rfl ⟨⟨j2 + 1, by omega, hj', rfl⟩, by show ((ats.length : Int) - (i2 + 1)).toNat < ((ats.length : Int) - i2).toNat; omega⟩)⟩⟩
  refine os ⟨_, _, _, rda r0 rfl, ?_⟩
  refine ⟨fun la ll lc i hh => ∃ (j : Nat) (col' : Nat → Nat) (ys : List Hb), i = j ∧ j ≤ xs.length ∧ Gj h col kb xs is ats ba bc j j hh la ll lc col' ys, fun _ _ _ i _ => ((xs.length : Int) - i).toNat,
    ⟨0, col, [], rfl, Nat.zero_le _, Fr.refl _ _, Ag.refl _ _, B.q, s1, rfl, rfl, Sl.nil _ _ _, fun i hi => absurd hi (Nat.not_lt_zero _), fun i hi _ => B.bx i hi⟩, ?_⟩
  rintro la ll lc i3 h6 ⟨j, col', ys, ei3, hj3, G⟩
  refine cd (fun hlt => ?_) fun hge => ?_
  rotate_left
  · obtain rfl : j = xs.length := by omega
    obtain rfl := G.hl
    exact hB ba bc la lc h6 col' ys G
  have hj' : j < xs.length := by omega
  have ein : i3.toNat = j := by omega
  have o := G.rest j hj' (Nat.le_refl _)
  rw [ein, wrap_i64 (n := i3 + 1) (by omega) (by omega)]
  obtain ⟨p, ep, cp⟩ := row_part5 G.row.cells hj'
  refine ⟨⟨by omega, hlt⟩, ?_⟩
  subst ep
  refine os ⟨_, rfl, cp, NewRow.intro rfl (Hb.one _) rfl fun h8 n8 => ⟨_, rda n8.rd rfl, ?_⟩⟩
  have z8 := n8.size
  have g8 : Ag h6.size col' (upd col' h6.size 0) := ag_upd _ _ _
  have G8 : Gj h col kb xs is ats (some p) bc j j h8 la ll lc (upd col' h6.size 0) ys := ⟨G.fr.no n8.fr, G.ag.trans g8 G.fr.size, G.q.no n8.fr g8, G.row.keep n8.fr g8 (fun _ _ y => y), G.hl, G.yl, G.l.keep n8.fr g8 (fun _ _ y => y), fun i hi => (G.up i hi).keep n8.fr g8 (fun _ _ y => y), fun i hi y => (G.rest i hi y).keep n8.fr g8 (fun _ _ y => y)⟩
  have o8 := o.keep n8.fr g8 fun _ _ y => y
  have c0 : upd col' h6.size 0 h6.size = 0 := upd_ge (Nat.le_refl _)
  generalize upd col' h6.size 0 = col8 at G8 o8 c0
  generalize hx : xs[j] = x at o8 n8 ⊢
  have nxt : ∀ {h' : Heap} {a : Option Addr} {cc : Nat} {col2 : Nat → Nat} {y : Hb}, Gj h col kb xs is ats (some p) bc (j + 1) (j + 1) h' a (j + 1) cc col2 (ys ++ [y]) → (∃ (j' : Nat) (col' : Nat → Nat) (ys : List Hb), ((j + 1 : Nat) : Int) = j' ∧ j' ≤ xs.length ∧ Gj h col kb xs is ats (some p) bc j' j' h' a (j + 1) cc col' ys) ∧ ((xs.length : Int) - ((j + 1 : Nat) : Int)).toNat < ((xs.length : Int) - i3).toNat := fun G' => ⟨⟨j + 1, _, _, rfl, hj', G'⟩, by omega⟩
  have ei4 : i3 + 1 = ((j + 1 : Nat) : Int) := by omega
  rw [ei4]
  cases hk : x.kept with
  | true =>
    obtain ⟨e1, e2⟩ := o8.yes hk
    refine ct rfl ⟨_, _, _, rda n8.rd rfl, _, o8.sl.str, _, rda n8.rd rfl, cnot (ct (by rw [e1]; exact beq_self_eq_true _) ⟨_, rfl, cellsAll n8.rd, grown_spec o8.sl e2 o8.max fun a9 c9 h9 f9 s9 => ⟨_, rfl, ?_⟩⟩)⟩
    have z9 := f9.size
    have g9 : Ag h8.size col8 (upd col8 h8.size (40 + 5 * j)) := ag_upd _ _ _
    have nb : ¬ On col8 (40 + 5 * j) h6.size := fun y => by have y : col8 h6.size = 40 + 5 * j := y; omega
    have r9 : rd h9 h6.size = x.cells := (f9.rd (by omega) nb).trans n8.rd
    have o9 := f9.own (by omega) nb n8.own
    refine PutRow.intro o9 rfl (Hb.one _) (by rw [r9]; exact (by decide : 0 + 5 ≤ 5)) fun h10 d10 => ?_
    have z10 := d10.size
    have r10 : rd h10 h6.size = (x.grow a9 c9).cells := by rw [d10.rd]; exact put_all _ _ (by rw [r9]; rfl)
    have sc9 : upd col8 h8.size (40 + 5 * j) h6.size = 0 := (g9 _ (by omega)).trans c0
    have q9 : ∀ k, k ≠ 40 + 5 * j → ∀ b, col8 b = k → ¬ On col8 (40 + 5 * j) b := fun k hk b hb y => hk (hb.symm.trans y)
    have ne : ∀ k, k ≠ 0 → ∀ b, upd col8 h8.size (40 + 5 * j) b = k → ¬ (fun b => b = h6.size) b := fun k hk b hb (y : b = h6.size) => by rw [y, sc9] at hb; exact hk hb.symm
    have f9' : Fr (fun b => (fun k => k = 40 + 5 * j) (col8 b)) h8 h9 := f9
    have B9 := G8.q.keep (Kc := fun k => k = 40 + 5 * j) f9' g9 (fun i => ⟨fun _ => ⟨fun y => by omega, fun y => by omega⟩, fun _ => ⟨fun y => by omega, fun y => by omega⟩⟩) fun k k1 k2 y => by omega
    have d10' : Fr (fun b => (fun k => k = 0) (upd col8 h8.size (40 + 5 * j) b)) h9 h10 := d10.fr.mono fun b _ (y : b = h6.size) => by rw [y]; exact sc9
    have B10 := B9.keep (Kc := fun k => k = 0) d10' (Ag.refl _ _) (fun i => ⟨fun _ => ⟨fun y => by omega, fun y => by omega⟩, fun _ => ⟨fun y => by omega, fun y => by omega⟩⟩) fun k k1 k2 y => by omega
    have G10 : Gj h col kb xs is ats (some p) bc j (j + 1) h10 la ll lc (upd col8 h8.size (40 + 5 * j)) ys := ⟨(G8.fr.trans f9 fun b hb y => by
        have y : col8 b = 40 + 5 * j := y
        have e2 := G8.ag b hb
        show 29 ≤ col b
        omega).did d10 fun y => by have := G.fr.size; omega, G8.ag.trans g9 G8.fr.size, B10, (G8.row.keep f9 g9 (q9 _ (by omega))).keep d10.fr (Ag.refl _ _) (ne _ (by decide)), G8.hl, G8.yl, (G8.l.keep f9 g9 (q9 _ (by omega))).keep d10.fr (Ag.refl _ _) (ne _ (by decide)), fun i hi => ((G8.up i hi).keep f9 g9 (q9 _ (by have := G8.yl; omega))).keep d10.fr (Ag.refl _ _) (ne _ (by omega)), fun i hi y => ((G8.rest i hi (by omega)).keep f9 g9 (q9 _ (by omega))).keep d10.fr (Ag.refl _ _) (ne _ (by omega))⟩
    have u10 : (x.grow a9 c9).Up h10 (upd col8 h8.size (40 + 5 * j)) (40 + 5 * j) := ⟨s9.keep d10.fr (Ag.refl _ _) (ne _ (by omega)), rfl, o8.max⟩
    exact G10.push (Nat.le_refl _) (by omega) u10 h6.size r10 fun a cc h' col2 _ G' => nxt G'
  | false =>
    refine cf rfl ?_
    have u8 : x.Up h8 col8 (40 + 5 * j) := ⟨o8.sl, o8.no hk, o8.max⟩
    exact G8.push (Nat.le_succ _) (by omega) u8 h6.size n8.rd fun a cc h' col2 _ G' => nxt G'
end
end Go.Proofs.Ytnbfaokpaiiojaa.Ap
/-
  bolelaw03.AdiskPlays: the book's end: numbers are written over and lengthened.
-/
namespace Go.Proofs.Ytnbfaokpaiiojaa.Ap
open Go Go.Proofs Go.Proofs.Ytnbfaokpaiiojaa.Wx Go.Proofs.Ytnbfaokpaiiojaa.Hp Go.Proofs.Ytnbfaokpaiiojaa.W Go.Proofs.Ytnbfaokpaiiojaa.Ad Go.Proofs.Ytnbfaokpaiiojaa.L3 Go.Proofs.Ytnbfaokpaiiojaa.Rf

def Li.s (x : Li) : Value := .slice x.a x.l x.c
def La.s (x : La) : Value := .slice x.a x.l x.c
theorem li_map : ∀ zs : List Li, zs.flatMap Li.v = zs.map Li.s
  | [] => rfl
  | z :: r => by rw [List.flatMap_cons, List.map_cons, li_map r]; rfl
theorem la_map : ∀ zs : List La, zs.flatMap La.v = zs.map La.s
  | [] => rfl
  | z :: r => by rw [List.flatMap_cons, List.map_cons, la_map r]; rfl
/-- one cell of a row is written -/
theorem put_val {h : Heap} {a : Option Addr} {l cc k j : Nat} {col : Nat → Nat} {ys : List Value} {v : Value} {X : Heap → Prop} (s : Sl h 1 a l cc ys (On col k)) (hj : j < l)
    (hX : ∀ h', Fr (On col k) h h' → Sl h' 1 a l cc (ys.set j v) (On col k) → X h') : onSome a fun p => Put (Addr.add p j) v h X := by
  obtain ⟨p, rfl, cp⟩ := s.get (by omega)
  have e := s.mk
  obtain ⟨b, o, sp⟩ := p
  have e : sp = none := by simpa using e
  subst e
  obtain ⟨w1, w2⟩ := s.wr
  have hb : On col k b := s.2.2.1
  refine os (Put.add w1 (by omega) fun h6 d6 => hX h6 ((Fr.refl _ _).did d6 fun _ => hb) ?_)
  exact s.putAt (j := j) (new := [v]) (by rw [List.length_singleton]; omega) d6
theorem val_at {h : Heap} {a : Option Addr} {vs : List Value} (A : SlCells h a vs) {j : Nat} (hj : j < vs.length) : ∃ p, a = some p ∧ cellOf h (p.add j) = some vs[j] := by
  cases a with
  | none => have A : vs = [] := A; rw [A] at hj; exact absurd hj (by simp)
  | some p => exact ⟨p, rfl, A j _ (List.getElem?_eq_getElem hj)⟩
/-- how the book's end stands: ji lists of numbers, ja rows of acts are written over -/
structure Hs (h : Heap) (col0 : Nat → Nat) (kb : Nat) (ys : List Hb) (zs : List Li) (us : List La) (ji ja : Nat) (hh : Heap) (la : Option Addr) (lc : Nat) (col : Nat → Nat) : Prop where
  fr : Fr (fun b => 29 ≤ col0 b) h hh
  ag : Ag h.size col0 col
  sc : col kb = 30
  so : Own hh kb
  rows : ∃ ba bl bc ia ic ta tc aa ac wa wc, rd hh kb = bkV ba bl bc ia zs.length ic ta tc aa us.length ac wa wc ∧ Sl hh 1 ia zs.length ic (zs.map Li.s) (On col 32) ∧ Sl hh 1 aa us.length ac (us.map La.s) (On col 34)
  l : Sl hh 5 la ys.length lc (ys.flatMap Hb.cells) (On col 29)
  up : ∀ i (hi : i < ys.length), ys[i].Up hh col (40 + 5 * i)
  zi : ∀ i (hi : i < zs.length), Sl hh 1 zs[i].a zs[i].l zs[i].c (intsV zs[i].vs) (On col (41 + 5 * i)) ∧ zs[i].l ≤ 1000000000001
  za : ∀ i (hi : i < us.length), Sl hh 3 us[i].a us[i].l us[i].c (us[i].es.flatMap Ent.cells) (On col (43 + 5 * i)) ∧ us[i].es.length = us[i].l ∧ us[i].l ≤ 1000000000001
  mi : ∀ i (hi : i < zs.length), ji ≤ i → zs[i].l ≤ 1000000000000
  ma : ∀ i (hi : i < us.length), ja ≤ i → us[i].l ≤ 1000000000000
  fi : ∀ i (hi : i < zs.length), i < ji → ∀ v ∈ zs[i].vs, v = -1000 - (i : Int)
  fa : ∀ i (hi : i < us.length), i < ja → ∀ e ∈ us[i].es, e.kind = -1000 - (i : Int)
section
variable {h hh h' : Heap} {col0 col col' : Nat → Nat} {kb lc ji ja : Nat} {ys : List Hb} {zs : List Li} {us : List La} {la : Option Addr}
/-- item j of the numbers is another one now -/
theorem Hs.setI {j : Nat} {z : Li} (H : Hs h col0 kb ys zs us j ja hh la lc col) (hj : j < zs.length) (f : Fr (On col (41 + 5 * j)) hh h') (g : Ag hh.size col col') (s : Sl h' 1 z.a z.l z.c (intsV z.vs) (On col' (41 + 5 * j))) (hz : Li.s z = Li.s zs[j]) : Hs h col0 kb ys (zs.set j z) us j ja h' la lc col' := by
  obtain ⟨ba, bl, bc, ia, ic, ta, tc, aa, ac, wa, wc, r, s1, s2⟩ := H.rows
  have q : ∀ k, k ≠ 41 + 5 * j → ∀ b, col b = k → ¬ On col (41 + 5 * j) b := fun k hk b hb y => hk (hb.symm.trans y)
  have lkb := H.so.lt
  have nb := q 30 (by omega) kb H.sc
  have em : (zs.set j z).map Li.s = zs.map Li.s := by
    rw [List.map_set, hz]
    refine List.ext_getElem (by rw [List.length_set]) fun i h1 h2 => ?_
    rw [List.getElem_set]
    split
    · rename_i e; subst e; rw [List.getElem_map]
    · rfl
  have el : z.l = zs[j].l := by
    have := hz
    unfold Li.s at this
    injection this
  refine ⟨H.fr.trans f fun b hb y => ?_, H.ag.trans g H.fr.size, (g _ lkb).trans H.sc, f.own lkb nb H.so, ⟨ba, bl, bc, ia, ic, ta, tc, aa, ac, wa, wc, by rw [List.length_set]; exact (f.rd lkb nb).trans r, by rw [List.length_set, em]; exact s1.keep f g (q _ (by omega)), s2.keep f g (q _ (by omega))⟩, H.l.keep f g (q _ (by omega)), fun i hi => (H.up i hi).keep f g (q _ (by omega)), fun i hi => ?_, fun i hi => ⟨(H.za i hi).1.keep f g (q _ (by omega)), (H.za i hi).2⟩, fun i hi y => ?_, H.ma, fun i hi y v hv => ?_, H.fa⟩
  · have y : col b = 41 + 5 * j := y
    have := H.ag b hb
    show 29 ≤ col0 b
    omega
  · rw [List.length_set] at hi
    by_cases e : j = i
    · subst e
      rw [List.getElem_set_self]
      exact ⟨s, by rw [el]; exact (H.zi j hj).2⟩
    · rw [List.getElem_set_ne e]
      exact ⟨(H.zi i hi).1.keep f g (q _ (by omega)), (H.zi i hi).2⟩
  · rw [List.length_set] at hi
    by_cases e : j = i
    · subst e
      rw [List.getElem_set_self, el]
      exact H.mi j hj y
    · rw [List.getElem_set_ne e]
      exact H.mi i hi y
  · rw [List.length_set] at hi
    rw [List.getElem_set_ne (by omega)] at hv
    exact H.fi i hi y v hv
end
end Go.Proofs.Ytnbfaokpaiiojaa.Ap
/-
  bolelaw03.AdiskPlays: the book's end: its numbers.
-/
namespace Go.Proofs.Ytnbfaokpaiiojaa.Ap
open Go Go.Proofs Go.Proofs.Ytnbfaokpaiiojaa.Wx Go.Proofs.Ytnbfaokpaiiojaa.Hp Go.Proofs.Ytnbfaokpaiiojaa.W Go.Proofs.Ytnbfaokpaiiojaa.Ad Go.Proofs.Ytnbfaokpaiiojaa.L3 Go.Proofs.Ytnbfaokpaiiojaa.Rf

section
variable {h hh h' : Heap} {col0 col col' : Nat → Nat} {kb lc ji ja : Nat} {ys : List Hb} {zs : List Li} {us : List La} {la : Option Addr} {K : Value → Heap → Prop}
theorem Hs.no (H : Hs h col0 kb ys zs us ji ja hh la lc col) (f : Fr No hh h') (g : Ag hh.size col col') : Hs h col0 kb ys zs us ji ja h' la lc col' := by
  obtain ⟨ba, bl, bc, ia, ic, ta, tc, aa, ac, wa, wc, r, s1, s2⟩ := H.rows
  have lkb := H.so.lt
  exact ⟨H.fr.no f, H.ag.trans g H.fr.size, (g _ lkb).trans H.sc, f.own lkb (fun y => y) H.so, ⟨ba, bl, bc, ia, ic, ta, tc, aa, ac, wa, wc, (f.rd lkb fun y => y).trans r, s1.keep f g (fun _ _ y => y), s2.keep f g (fun _ _ y => y)⟩, H.l.keep f g (fun _ _ y => y), fun i hi => (H.up i hi).keep f g (fun _ _ y => y), fun i hi => ⟨(H.zi i hi).1.keep f g (fun _ _ y => y), (H.zi i hi).2⟩, fun i hi => ⟨(H.za i hi).1.keep f g (fun _ _ y => y), (H.za i hi).2⟩, H.mi, H.ma, H.fi, H.fa⟩
/-- what is read of the rows -/
theorem Hs.cellI (H : Hs h col0 kb ys zs us ji ja hh la lc col) : ∃ ia ic, cellOf hh (Addr.add ⟨kb, 0, none⟩ 1) = some (.slice ia zs.length ic) ∧ Sl hh 1 ia zs.length ic (zs.map Li.s) (On col 32) ∧ ∀ j (hj : j < zs.length), ∃ p, ia = some p ∧ cellOf hh (p.add j) = some (.slice zs[j].a zs[j].l zs[j].c) := by
  obtain ⟨ba, bl, bc, ia, ic, ta, tc, aa, ac, wa, wc, r, s1, s2⟩ := H.rows
  refine ⟨ia, ic, rda r rfl, s1, fun j hj => ?_⟩
  obtain ⟨p, ep, cp⟩ := val_at s1.cells (j := j) (by rw [List.length_map]; exact hj)
  rw [List.getElem_map] at cp
  exact ⟨p, ep, cp⟩
theorem holds_B (H : Hs h col0 kb ys zs us 0 0 hh la lc col) (hn : zs.length < 1000000000000) (hC : ∀ hh' col' zs', zs'.length = zs.length → Hs h col0 kb ys zs' us zs'.length 0 hh' la lc col' → holdsC kb la ys.length hh' K) : holdsB kb la ys.length hh K := by
  unfold holdsB
  obtain ⟨ia0, ic0, c0, _, _⟩ := H.cellI
  refine os ⟨_, _, _, c0, fun i hx => ∃ (j : Nat) (zs' : List Li) (col' : Nat → Nat), i = j ∧ j ≤ zs.length ∧ zs'.length = zs.length ∧ Hs h col0 kb ys zs' us j 0 hx la lc col', fun i _ => ((zs.length : Int) - i).toNat, ⟨0, zs, col, rfl, Nat.zero_le _, rfl, H⟩, ?_⟩
  rintro i h15 ⟨j, zs', col1, ei, hj, hl, H1⟩
  refine cd (fun hlt => ?_) fun hge => ?_
  rotate_left
  · have ej : j = zs'.length := by omega
    rw [ej] at H1
    exact hC h15 col1 zs' hl H1
  have hj' : j < zs'.length := by omega
  have ein : i.toNat = j := by omega
  obtain ⟨ia, ic, c1, s1, k1⟩ := H1.cellI
  obtain ⟨p, ep, cp⟩ := k1 j hj'
  have ml := H1.mi j hj' (Nat.le_refl _)
  have wv : IntKind.wrap .i64 ((-1000) - i) = -1000 - (j : Int) := by rw [wrap_i64 (by omega) (by omega)]; omega
  rw [ein, wv, wrap_i64 (n := i + 1) (by omega) (by omega)]
  refine os ⟨_, _, _, c1, ⟨by omega, by omega⟩, ?_⟩
  subst ep
  refine os ⟨_, _, _, cp, ?_⟩
  generalize hz : zs'[j] = z at ml cp ⊢
  have vl : z.vs.length = z.l := by have := intsV_len (H1.zi j hj').1; rw [hz] at this; exact this
  refine ⟨fun k hx => ∃ (q : Nat) (ws : List Int), k = q ∧ q ≤ z.l ∧ ws.length = z.l ∧ ws.take q = List.replicate q (-1000 - (j : Int)) ∧ Hs h col0 kb ys (zs'.set j { z with vs := ws }) us j 0 hx la lc col1, fun k _ => ((z.l : Int) - k).toNat,
    ⟨0, z.vs, rfl, Nat.zero_le _, vl, rfl, by rw [show ({ z with vs := z.vs } : Li) = z from rfl, ← hz, List.set_getElem_self]; exact H1⟩, ?_⟩
  rintro k h16 ⟨q, ws, ek, hq, wl, wt, H2⟩
  have hj2 : j < (zs'.set j { z with vs := ws }).length := by rw [List.length_set]; exact hj'
  obtain ⟨ia2, ic2, c2, s2, k2⟩ := H2.cellI
  obtain ⟨p2, ep2, cp2⟩ := k2 j hj2
  have z2 := (H2.zi j hj2).1
  rw [List.getElem_set_self] at cp2 z2
  rw [List.length_set] at c2 s2
  subst ep2
  refine cd (fun hlt2 => ?_) fun hge2 => ?_
  · have hq' : q < z.l := by omega
    have ekn : k.toNat = q := by omega
    rw [ekn, wrap_i64 (n := k + 1) (by omega) (by omega)]
    refine os ⟨_, _, _, c2, ⟨by omega, by omega⟩, os ⟨_, _, _, cp2, ⟨by omega, hlt2⟩, put_int z2 hq' fun h17 f17 s17 => ?_⟩⟩
    have H3 := H2.setI (z := { z with vs := ws.set q (-1000 - (j : Int)) }) hj2 f17 (Ag.refl _ _) s17 (by rw [List.getElem_set_self]; rfl)
    rw [List.set_set] at H3
    refine ⟨⟨q + 1, _, by omega, hq', by rw [List.length_set]; exact wl, ?_, H3⟩, by show ((z.l : Int) - (k + 1)).toNat < ((z.l : Int) - k).toNat; omega⟩
    rw [take_snoc _ _ (by rw [List.length_set]; omega), List.getElem_set_self, List.take_set_of_le (Nat.le_refl _), wt, List.replicate_succ']
  · have eq : q = z.l := by omega
    have ews : ws = List.replicate z.l (-1000 - (j : Int)) := by rw [← eq, ← wt, List.take_of_length_le (by omega)]
    refine os ⟨_, _, _, c2, os ⟨_, _, _, c2, ⟨by omega, by omega⟩, os ⟨_, _, _, cp2, New.intro fun h18 n18 => ?_⟩⟩⟩
    have z18 := n18.size
    have g18 : Ag h16.size col1 (upd col1 h16.size 0) := ag_upd _ _ _
    have H4 := H2.no n18.fr g18
    have s2' := s2.keep n18.fr g18 fun _ _ y => y
    have z2' := z2.keep n18.fr g18 fun _ _ y => y
    have lkb := H2.so.lt
    have st : ∀ {b o : Nat} {v : Value}, b < h16.size → cellOf h16 ⟨b, o, none⟩ = some v → cellOf h18 ⟨b, o, none⟩ = some v := fun hb hc => by rw [cellOf_rd, n18.at_ hb]; rw [cellOf_rd] at hc; exact hc
    have c18 : cellOf h18 (Addr.add ⟨kb, 0, none⟩ 1) = some (.slice (some p2) zs'.length ic2) := by rw [add_mk] at c2 ⊢; exact st lkb c2
    have cp18 : cellOf h18 (p2.add j) = some (.slice z.a z.l z.c) := by
      have := s2'.cells
      have := Cells.cell this (i := j) (v := .slice z.a z.l z.c) (by rw [List.getElem?_map, List.getElem?_set_self hj']; rfl)
      exact this
    refine ⟨c18, c18, cp18, [.int .i64 (-1000 - (j : Int))], rfl, cellsAll n18.rd, fun v hv => by rw [List.mem_singleton.mp hv]; rfl, ?_⟩
    refine append_col (elem := ti3) z2' rfl rfl (by show (z.l + 1) * 8 ≤ _; omega) (by show z.l + 1 ≤ _; omega) fun a9 c9 h19 f19 s19 => ?_
    have g19 : Ag h18.size (upd col1 h16.size 0) (upd (upd col1 h16.size 0) h18.size (41 + 5 * j)) := ag_upd _ _ _
    have q19 : ∀ k, k ≠ 41 + 5 * j → ∀ b, upd col1 h16.size 0 b = k → ¬ On (upd col1 h16.size 0) (41 + 5 * j) b := fun k hk b hb y => hk (hb.symm.trans y)
    obtain ⟨ba, bl, bc, ia3, ic3, ta, tc, aa, ac, wa, wc, r4, t1, t2⟩ := H4.rows
    have lkb4 := H4.so.lt
    have nb := q19 30 (by omega) kb H4.sc
    have r19 := (f19.rd lkb4 nb).trans r4
    rw [List.length_set] at r19 t1
    have e3 : ia3 = some p2 ∧ ic3 = ic2 := by
      have e := rda (o := 0) (n := 1) r4 rfl
      rw [c18] at e
      injection e with e
      injection e with e1 e2 e3
      exact ⟨e1.symm, e3.symm⟩
    obtain ⟨rfl, rfl⟩ := e3
    have t19 := t1.keep f19 g19 (q19 _ (by omega))
    refine ⟨rda r19 rfl, ⟨by omega, by omega⟩, put_val t19 hj' fun h20 f20 s20 => ?_⟩
    generalize upd (upd col1 h16.size 0) h18.size (41 + 5 * j) = col9 at g19 s19 t19 f20 s20
    have z19 := f19.size
    have q20 : ∀ k, k ≠ 32 → ∀ b, col9 b = k → ¬ On col9 32 b := fun k hk b hb y => hk (hb.symm.trans y)
    have sc9 : col9 kb = 30 := (g19 kb lkb4).trans H4.sc
    have lkb9 : kb < h19.size := by omega
    have nb9 := q20 30 (by decide) kb sc9
    have kp : ∀ {ec : Nat} {a : Option Addr} {l c : Nat} {vs : List Value} {k : Nat}, Sl h18 ec a l c vs (On (upd col1 h16.size 0) k) → k ≠ 41 + 5 * j → k ≠ 32 → Sl h20 ec a l c vs (On col9 k) := fun s k1 k2 => (s.keep f19 g19 (q19 _ k1)).keep f20 (Ag.refl _ _) (q20 _ k2)
    have s20' : Sl h20 1 (some p2) zs'.length ic3 ((zs'.set j ⟨a9, z.l + 1, c9, z.ta, z.tc, ws ++ [-1000 - (j : Int)]⟩).map Li.s) (On col9 32) := by
      have e1 : (zs'.set j ⟨a9, z.l + 1, c9, z.ta, z.tc, ws ++ [-1000 - (j : Int)]⟩).map Li.s = ((zs'.set j { z with vs := ws }).map Li.s).set j (.slice a9 (z.l + 1) c9) := by
        rw [List.map_set, List.map_set, List.set_set]; rfl
      rw [e1]; exact s20
    have H5 : Hs h col0 kb ys (zs'.set j ⟨a9, z.l + 1, c9, z.ta, z.tc, ws ++ [-1000 - (j : Int)]⟩) us (j + 1) 0 h20 la lc col9 := by
      refine ⟨(H4.fr.trans f19 fun b hb y => ?_).trans f20 fun b hb y => ?_, H4.ag.trans g19 H4.fr.size, sc9, f20.own lkb9 nb9 (f19.own lkb4 nb H4.so), ⟨ba, bl, bc, some p2, ic3, ta, tc, aa, ac, wa, wc, by rw [List.length_set]; exact (f20.rd lkb9 nb9).trans r19, by rw [List.length_set]; exact s20', kp t2 (by omega) (by decide)⟩, kp H4.l (by omega) (by decide), fun i hi => ⟨kp (H4.up i hi).sl (by omega) (by omega), (H4.up i hi).full, (H4.up i hi).max⟩, fun i hi => ?_, fun i hi => ⟨kp (H4.za i hi).1 (by omega) (by omega), (H4.za i hi).2⟩, fun i hi y => ?_, H4.ma, fun i hi y v hv => ?_, H4.fa⟩
      · have y : upd col1 h16.size 0 b = 41 + 5 * j := y
        have := H4.ag b hb
        show 29 ≤ col0 b
        omega
      · have y : col9 b = 32 := y
        have := (H4.ag.trans g19 H4.fr.size) b hb
        show 29 ≤ col0 b
        omega
      · rw [List.length_set] at hi
        by_cases e : j = i
        · subst e
          rw [List.getElem_set_self]
          have e2 : intsV (ws ++ [-1000 - (j : Int)]) = intsV ws ++ [.int .i64 (-1000 - (j : Int))] := by unfold intsV; rw [List.map_append]; rfl
          refine ⟨?_, by show z.l + 1 ≤ _; omega⟩
          show Sl h20 1 a9 (z.l + 1) c9 (intsV (ws ++ [-1000 - (j : Int)])) (On col9 (41 + 5 * j))
          rw [e2]
          exact s19.keep f20 (Ag.refl _ _) (q20 _ (by omega))
        · rw [List.getElem_set_ne e]
          have := H4.zi i (by rw [List.length_set]; exact hi)
          rw [List.getElem_set_ne e] at this
          exact ⟨kp this.1 (by omega) (by omega), this.2⟩
      · rw [List.length_set] at hi
        rw [List.getElem_set_ne (by omega)]
        exact H1.mi i hi (by omega)
      · rw [List.length_set] at hi
        by_cases e : j = i
        · subst e
          rw [List.getElem_set_self] at hv
          have hv : v ∈ ws ++ [-1000 - (j : Int)] := hv
          rcases List.mem_append.mp hv with hv | hv
          · rw [ews] at hv; exact List.eq_of_mem_replicate hv
          · exact List.mem_singleton.mp hv
        · rw [List.getElem_set_ne e] at hv
          exact H1.fi i hi (by omega) v hv
    exact ⟨⟨j + 1, _, _, by omega, by omega, by rw [List.length_set]; exact hl, H5⟩, by show ((zs.length : Int) - (i + 1)).toNat < ((zs.length : Int) - i).toNat; omega⟩
end
end Go.Proofs.Ytnbfaokpaiiojaa.Ap
/-
  bolelaw03.AdiskPlays: the book's end: its acts.
-/
namespace Go.Proofs.Ytnbfaokpaiiojaa.Ap
open Go Go.Proofs Go.Proofs.Ytnbfaokpaiiojaa.Wx Go.Proofs.Ytnbfaokpaiiojaa.Hp Go.Proofs.Ytnbfaokpaiiojaa.W Go.Proofs.Ytnbfaokpaiiojaa.Ad Go.Proofs.Ytnbfaokpaiiojaa.L3 Go.Proofs.Ytnbfaokpaiiojaa.Rf

section
variable {h hh h' : Heap} {col0 col col' : Nat → Nat} {kb lc ji ja : Nat} {ys : List Hb} {zs : List Li} {us : List La} {la : Option Addr} {K : Value → Heap → Prop}
/-- item j of the acts is another one now -/
theorem Hs.setA {j : Nat} {z : La} (H : Hs h col0 kb ys zs us ji j hh la lc col) (hj : j < us.length) (f : Fr (On col (43 + 5 * j)) hh h') (g : Ag hh.size col col') (s : Sl h' 3 z.a z.l z.c (z.es.flatMap Ent.cells) (On col' (43 + 5 * j))) (hl : z.es.length = z.l) (hz : La.s z = La.s us[j]) : Hs h col0 kb ys zs (us.set j z) ji j h' la lc col' := by
  obtain ⟨ba, bl, bc, ia, ic, ta, tc, aa, ac, wa, wc, r, s1, s2⟩ := H.rows
  have q : ∀ k, k ≠ 43 + 5 * j → ∀ b, col b = k → ¬ On col (43 + 5 * j) b := fun k hk b hb y => hk (hb.symm.trans y)
  have lkb := H.so.lt
  have nb := q 30 (by omega) kb H.sc
  have em : (us.set j z).map La.s = us.map La.s := by
    rw [List.map_set, hz]
    refine List.ext_getElem (by rw [List.length_set]) fun i h1 h2 => ?_
    rw [List.getElem_set]
    split
    · rename_i e; subst e; rw [List.getElem_map]
    · rfl
  have el : z.l = us[j].l := by
    have := hz
    unfold La.s at this
    injection this
  refine ⟨H.fr.trans f fun b hb y => ?_, H.ag.trans g H.fr.size, (g _ lkb).trans H.sc, f.own lkb nb H.so, ⟨ba, bl, bc, ia, ic, ta, tc, aa, ac, wa, wc, by rw [List.length_set]; exact (f.rd lkb nb).trans r, s1.keep f g (q _ (by omega)), by rw [List.length_set, em]; exact s2.keep f g (q _ (by omega))⟩, H.l.keep f g (q _ (by omega)), fun i hi => (H.up i hi).keep f g (q _ (by omega)), fun i hi => ⟨(H.zi i hi).1.keep f g (q _ (by omega)), (H.zi i hi).2⟩, fun i hi => ?_, H.mi, fun i hi y => ?_, H.fi, fun i hi y v hv => ?_⟩
  · have y : col b = 43 + 5 * j := y
    have := H.ag b hb
    show 29 ≤ col0 b
    omega
  · rw [List.length_set] at hi
    by_cases e : j = i
    · subst e
      rw [List.getElem_set_self]
      exact ⟨s, hl, by rw [el]; exact (H.za j hj).2.2⟩
    · rw [List.getElem_set_ne e]
      exact ⟨(H.za i hi).1.keep f g (q _ (by omega)), (H.za i hi).2⟩
  · rw [List.length_set] at hi
    by_cases e : j = i
    · subst e
      rw [List.getElem_set_self, el]
      exact H.ma j hj y
    · rw [List.getElem_set_ne e]
      exact H.ma i hi y
  · rw [List.length_set] at hi
    rw [List.getElem_set_ne (by omega)] at hv
    exact H.fa i hi y v hv
theorem Hs.cellA (H : Hs h col0 kb ys zs us ji ja hh la lc col) : ∃ ia ic, cellOf hh (Addr.add ⟨kb, 0, none⟩ 3) = some (.slice ia us.length ic) ∧ Sl hh 1 ia us.length ic (us.map La.s) (On col 34) ∧ ∀ j (hj : j < us.length), ∃ p, ia = some p ∧ cellOf hh (p.add j) = some (.slice us[j].a us[j].l us[j].c) := by
  obtain ⟨ba, bl, bc, ia, ic, ta, tc, aa, ac, wa, wc, r, s1, s2⟩ := H.rows
  refine ⟨aa, ac, rda r rfl, s2, fun j hj => ?_⟩
  obtain ⟨p, ep, cp⟩ := val_at s2.cells (j := j) (by rw [List.length_map]; exact hj)
  rw [List.getElem_map] at cp
  exact ⟨p, ep, cp⟩
theorem holds_C (H : Hs h col0 kb ys zs us ji 0 hh la lc col) (hn : us.length < 1000000000000) (hC : ∀ hh' col' us', us'.length = us.length → Hs h col0 kb ys zs us' ji us'.length hh' la lc col' → holdsD kb la ys.length hh' K) : holdsC kb la ys.length hh K := by
  unfold holdsC
  obtain ⟨ia0, ic0, c0, _, _⟩ := H.cellA
  refine os ⟨_, _, _, c0, fun i hx => ∃ (j : Nat) (us' : List La) (col' : Nat → Nat), i = j ∧ j ≤ us.length ∧ us'.length = us.length ∧ Hs h col0 kb ys zs us' ji j hx la lc col', fun i _ => ((us.length : Int) - i).toNat, ⟨0, us, col, rfl, Nat.zero_le _, rfl, H⟩, ?_⟩
  rintro i h15 ⟨j, us', col1, ei, hj, hl, H1⟩
  refine cd (fun hlt => ?_) fun hge => ?_
  rotate_left
  · have ej : j = us'.length := by omega
    rw [ej] at H1
    exact hC h15 col1 us' hl H1
  have hj' : j < us'.length := by omega
  have ein : i.toNat = j := by omega
  obtain ⟨ia, ic, c1, s1, k1⟩ := H1.cellA
  obtain ⟨p, ep, cp⟩ := k1 j hj'
  have ml := H1.ma j hj' (Nat.le_refl _)
  have wv : IntKind.wrap .i64 ((-1000) - i) = -1000 - (j : Int) := by rw [wrap_i64 (by omega) (by omega)]; omega
  rw [ein, wv, wrap_i64 (n := i + 1) (by omega) (by omega)]
  refine os ⟨_, _, _, c1, ⟨by omega, by omega⟩, ?_⟩
  subst ep
  refine os ⟨_, _, _, cp, ?_⟩
  generalize hz : us'[j] = z at ml cp ⊢
  have vl : z.es.length = z.l := by have := (H1.za j hj').2.1; rw [hz] at this; exact this
  have e0 : ([.int .i64 (-1000 - (j : Int)), .int .i64 0, .slice none 0 0] : List Value) = Ent.cells ⟨-1000 - (j : Int), 0, none, 0, 0⟩ := rfl
  rw [e0]
  refine ⟨fun k hx => ∃ (q : Nat) (ws : List Ent), k = q ∧ q ≤ z.l ∧ ws.length = z.l ∧ ws.take q = List.replicate q ⟨-1000 - (j : Int), 0, none, 0, 0⟩ ∧ Hs h col0 kb ys zs (us'.set j { z with es := ws }) ji j hx la lc col1, fun k _ => ((z.l : Int) - k).toNat,
    ⟨0, z.es, rfl, Nat.zero_le _, vl, rfl, by rw [show ({ z with es := z.es } : La) = z from rfl, ← hz, List.set_getElem_self]; exact H1⟩, ?_⟩
  rintro k h16 ⟨q, ws, ek, hq, wl, wt, H2⟩
  have hj2 : j < (us'.set j { z with es := ws }).length := by rw [List.length_set]; exact hj'
  obtain ⟨ia2, ic2, c2, s2, k2⟩ := H2.cellA
  obtain ⟨p2, ep2, cp2⟩ := k2 j hj2
  have z2 := (H2.za j hj2).1
  rw [List.getElem_set_self] at cp2 z2
  rw [List.length_set] at c2 s2
  subst ep2
  refine cd (fun hlt2 => ?_) fun hge2 => ?_
  · have hq' : q < z.l := by omega
    have ekn : k.toNat = q := by omega
    rw [ekn, wrap_i64 (n := k + 1) (by omega) (by omega)]
    refine os ⟨_, _, _, c2, ⟨by omega, by omega⟩, os ⟨_, _, _, cp2, ⟨by omega, hlt2⟩, put_ent z2 wl hq' fun h17 f17 s17 => ?_⟩⟩
    have H3 := H2.setA (z := { z with es := ws.set q ⟨-1000 - (j : Int), 0, none, 0, 0⟩ }) hj2 f17 (Ag.refl _ _) s17 (by show (ws.set q _).length = z.l; rw [List.length_set]; exact wl) (by rw [List.getElem_set_self]; rfl)
    rw [List.set_set] at H3
    refine ⟨⟨q + 1, _, by omega, hq', by rw [List.length_set]; exact wl, ?_, H3⟩, by show ((z.l : Int) - (k + 1)).toNat < ((z.l : Int) - k).toNat; omega⟩
    rw [take_snoc _ _ (by rw [List.length_set]; omega), List.getElem_set_self, List.take_set_of_le (Nat.le_refl _), wt, List.replicate_succ']
  · have eq : q = z.l := by omega
    have ews : ws = List.replicate z.l ⟨-1000 - (j : Int), 0, none, 0, 0⟩ := by rw [← eq, ← wt, List.take_of_length_le (by omega)]
    refine os ⟨_, _, _, c2, os ⟨_, _, _, c2, ⟨by omega, by omega⟩, os ⟨_, _, _, cp2, rfl, New.intro fun h18 n18 => ?_⟩⟩⟩
    have z18 := n18.size
    have g18 : Ag h16.size col1 (upd col1 h16.size 0) := ag_upd _ _ _
    have H4 := H2.no n18.fr g18
    have s2' := s2.keep n18.fr g18 fun _ _ y => y
    have z2' := z2.keep n18.fr g18 fun _ _ y => y
    have lkb := H2.so.lt
    have st : ∀ {b o : Nat} {v : Value}, b < h16.size → cellOf h16 ⟨b, o, none⟩ = some v → cellOf h18 ⟨b, o, none⟩ = some v := fun hb hc => by rw [cellOf_rd, n18.at_ hb]; rw [cellOf_rd] at hc; exact hc
    have c18 : cellOf h18 (Addr.add ⟨kb, 0, none⟩ 3) = some (.slice (some p2) us'.length ic2) := by rw [add_mk] at c2 ⊢; exact st lkb c2
    have cp18 : cellOf h18 (p2.add j) = some (.slice z.a z.l z.c) := by
      have := s2'.cells
      have := Cells.cell this (i := j) (v := .slice z.a z.l z.c) (by rw [List.getElem?_map, List.getElem?_set_self hj']; rfl)
      exact this
    refine ⟨c18, c18, cp18, Ent.cells ⟨-1000 - (j : Int), 0, none, 0, 0⟩, rfl, cellsAll n18.rd, ent_one _, ?_⟩
    refine append_col (elem := ti70) z2' rfl rfl (by show (z.l + 1) * 40 ≤ _; omega) (by show z.l + 1 ≤ _; omega) fun a9 c9 h19 f19 s19 => ?_
    have g19 : Ag h18.size (upd col1 h16.size 0) (upd (upd col1 h16.size 0) h18.size (43 + 5 * j)) := ag_upd _ _ _
    have q19 : ∀ k, k ≠ 43 + 5 * j → ∀ b, upd col1 h16.size 0 b = k → ¬ On (upd col1 h16.size 0) (43 + 5 * j) b := fun k hk b hb y => hk (hb.symm.trans y)
    obtain ⟨ba, bl, bc, ia3, ic3, ta, tc, aa, ac, wa, wc, r4, t1, t2⟩ := H4.rows
    have lkb4 := H4.so.lt
    have nb := q19 30 (by omega) kb H4.sc
    have r19 := (f19.rd lkb4 nb).trans r4
    rw [List.length_set] at r19 t2
    have e3 : aa = some p2 ∧ ac = ic2 := by
      have e := rda (o := 0) (n := 3) r4 rfl
      rw [c18] at e
      injection e with e
      injection e with e1 e2 e3
      exact ⟨e1.symm, e3.symm⟩
    obtain ⟨rfl, rfl⟩ := e3
    have t19 := t2.keep f19 g19 (q19 _ (by omega))
    refine ⟨rda r19 rfl, ⟨by omega, by omega⟩, put_val t19 hj' fun h20 f20 s20 => ?_⟩
    generalize upd (upd col1 h16.size 0) h18.size (43 + 5 * j) = col9 at g19 s19 t19 f20 s20
    have z19 := f19.size
    have q20 : ∀ k, k ≠ 34 → ∀ b, col9 b = k → ¬ On col9 34 b := fun k hk b hb y => hk (hb.symm.trans y)
    have sc9 : col9 kb = 30 := (g19 kb lkb4).trans H4.sc
    have lkb9 : kb < h19.size := by omega
    have nb9 := q20 30 (by decide) kb sc9
    have kp : ∀ {ec : Nat} {a : Option Addr} {l c : Nat} {vs : List Value} {k : Nat}, Sl h18 ec a l c vs (On (upd col1 h16.size 0) k) → k ≠ 43 + 5 * j → k ≠ 34 → Sl h20 ec a l c vs (On col9 k) := fun s k1 k2 => (s.keep f19 g19 (q19 _ k1)).keep f20 (Ag.refl _ _) (q20 _ k2)
    have s20' : Sl h20 1 (some p2) us'.length ac ((us'.set j ⟨a9, z.l + 1, c9, z.wa, z.wc, ws ++ [⟨-1000 - (j : Int), 0, none, 0, 0⟩], z.ws⟩).map La.s) (On col9 34) := by
      have e1 : (us'.set j ⟨a9, z.l + 1, c9, z.wa, z.wc, ws ++ [⟨-1000 - (j : Int), 0, none, 0, 0⟩], z.ws⟩).map La.s = ((us'.set j { z with es := ws }).map La.s).set j (.slice a9 (z.l + 1) c9) := by
        rw [List.map_set, List.map_set, List.set_set]; rfl
      rw [e1]; exact s20
    have H5 : Hs h col0 kb ys zs (us'.set j ⟨a9, z.l + 1, c9, z.wa, z.wc, ws ++ [⟨-1000 - (j : Int), 0, none, 0, 0⟩], z.ws⟩) ji (j + 1) h20 la lc col9 := by
      refine ⟨(H4.fr.trans f19 fun b hb y => ?_).trans f20 fun b hb y => ?_, H4.ag.trans g19 H4.fr.size, sc9, f20.own lkb9 nb9 (f19.own lkb4 nb H4.so), ⟨ba, bl, bc, ia3, ic3, ta, tc, some p2, ac, wa, wc, by rw [List.length_set]; exact (f20.rd lkb9 nb9).trans r19, kp t1 (by omega) (by decide), by rw [List.length_set]; exact s20'⟩, kp H4.l (by omega) (by decide), fun i hi => ⟨kp (H4.up i hi).sl (by omega) (by omega), (H4.up i hi).full, (H4.up i hi).max⟩, fun i hi => ⟨kp (H4.zi i hi).1 (by omega) (by omega), (H4.zi i hi).2⟩, fun i hi => ?_, H4.mi, fun i hi y => ?_, H4.fi, fun i hi y v hv => ?_⟩
      · have y : upd col1 h16.size 0 b = 43 + 5 * j := y
        have := H4.ag b hb
        show 29 ≤ col0 b
        omega
      · have y : col9 b = 34 := y
        have := (H4.ag.trans g19 H4.fr.size) b hb
        show 29 ≤ col0 b
        omega
      · rw [List.length_set] at hi
        by_cases e : j = i
        · subst e
          rw [List.getElem_set_self]
          refine ⟨?_, by show (ws ++ [_]).length = z.l + 1; rw [List.length_append, wl]; rfl, by show z.l + 1 ≤ _; omega⟩
          show Sl h20 3 a9 (z.l + 1) c9 ((ws ++ [(⟨-1000 - (j : Int), 0, none, 0, 0⟩ : Ent)]).flatMap Ent.cells) (On col9 (43 + 5 * j))
          rw [List.flatMap_append, List.flatMap_singleton]
          exact s19.keep f20 (Ag.refl _ _) (q20 _ (by omega))
        · rw [List.getElem_set_ne e]
          have := H4.za i (by rw [List.length_set]; exact hi)
          rw [List.getElem_set_ne e] at this
          exact ⟨kp this.1 (by omega) (by omega), this.2⟩
      · rw [List.length_set] at hi
        rw [List.getElem_set_ne (by omega)]
        exact H1.ma i hi (by omega)
      · rw [List.length_set] at hi
        by_cases e : j = i
        · subst e
          rw [List.getElem_set_self] at hv
          have hv : v ∈ ws ++ [(⟨-1000 - (j : Int), 0, none, 0, 0⟩ : Ent)] := hv
          rcases List.mem_append.mp hv with hv | hv
          · rw [ews] at hv; rw [List.eq_of_mem_replicate hv]
          · rw [List.mem_singleton.mp hv]
        · rw [List.getElem_set_ne e] at hv
          exact H1.fa i hi (by omega) v hv
    exact ⟨⟨j + 1, _, _, by omega, by omega, by rw [List.length_set]; exact hl, H5⟩, by show ((us.length : Int) - (i + 1)).toNat < ((us.length : Int) - i).toNat; omega⟩
end
end Go.Proofs.Ytnbfaokpaiiojaa.Ap
/-
  bolelaw03.AdiskPlays: the book's end: all that was written is looked at.
-/
namespace Go.Proofs.Ytnbfaokpaiiojaa.Ap
open Go Go.Proofs Go.Proofs.Ytnbfaokpaiiojaa.Wx Go.Proofs.Ytnbfaokpaiiojaa.Hp Go.Proofs.Ytnbfaokpaiiojaa.W Go.Proofs.Ytnbfaokpaiiojaa.Ad Go.Proofs.Ytnbfaokpaiiojaa.L3 Go.Proofs.Ytnbfaokpaiiojaa.Rf

section
variable {h hh h' : Heap} {col0 col col' : Nat → Nat} {kb lc ji ja : Nat} {ys : List Hb} {zs : List Li} {us : List La} {la : Option Addr} {K : Value → Heap → Prop}
theorem bne_no {a b : Int} (e : a = b) : (a != b) = false := by subst e; exact bne_self_eq_false a
theorem holds_F (H : Hs h col0 kb ys zs us zs.length us.length hh la lc col) (hn : us.length < 1000000000000) (hK : ∀ hh' col', Hs h col0 kb ys zs us zs.length us.length hh' la lc col' → K (.bool true) hh') : holdsF kb la ys.length hh K := by
  unfold holdsF
  obtain ⟨ia0, ic0, c0, _, _⟩ := H.cellA
  refine os ⟨_, _, _, c0, fun i hx => ∃ (j : Nat) (col' : Nat → Nat), i = j ∧ j ≤ us.length ∧ Hs h col0 kb ys zs us zs.length us.length hx la lc col', fun i _ => ((us.length : Int) - i).toNat, ⟨0, col, rfl, Nat.zero_le _, H⟩, ?_⟩
  rintro i h15 ⟨j, col1, ei, hj, H1⟩
  refine cd (fun hlt => ?_) fun hge => hK h15 col1 H1
  have hj' : j < us.length := by omega
  have ein : i.toNat = j := by omega
  obtain ⟨ia, ic, c1, s1, k1⟩ := H1.cellA
  obtain ⟨p, ep, cp⟩ := k1 j hj'
  have wv : IntKind.wrap .i64 ((-1000) - i) = -1000 - (j : Int) := by rw [wrap_i64 (by omega) (by omega)]; omega
  rw [ein, wv, wrap_i64 (n := i + 1) (by omega) (by omega)]
  refine os ⟨_, _, _, c1, ⟨by omega, by omega⟩, ?_⟩
  subst ep
  refine os ⟨_, _, _, cp, ?_⟩
  refine ⟨fun k hx => ∃ (q : Nat) (col' : Nat → Nat), k = q ∧ q ≤ us[j].l ∧ Hs h col0 kb ys zs us zs.length us.length hx la lc col', fun k _ => ((us[j].l : Int) - k).toNat, ⟨0, col1, rfl, Nat.zero_le _, H1⟩, ?_⟩
  rintro k h16 ⟨q, col2, ek, hq, H2⟩
  have z2 := (H2.za j hj')
  have omx := z2.2.2
  refine cd (fun hlt2 => ?_) fun hge2 => ⟨⟨j + 1, col2, by omega, hj', H2⟩, by show ((us.length : Int) - (i + 1)).toNat < ((us.length : Int) - i).toNat; omega⟩
  have hq' : q < us[j].l := by omega
  have ekn : k.toNat = q := by omega
  rw [ekn, wrap_i64 (n := k + 1) (by omega) (by omega)]
  refine ⟨⟨by omega, hlt2⟩, ?_⟩
  have hq2 : q < us[j].es.length := by rw [z2.2.1]; exact hq'
  have A := z2.1.cells
  have e1 := H2.fa j hj' hj' us[j].es[q] (List.getElem_mem hq2)
  generalize us[j].a = aa at A ⊢
  cases aa with
  | none => have A : us[j].es.flatMap Ent.cells = [] := A; have hl := flat_length Ent.cells 3 us[j].es fun _ _ => rfl; rw [A] at hl; exact absurd hl (by simp; omega)
  | some p3 =>
    have A := Cells.part A (q * 3) 3
    rw [flat_part Ent.cells 3 us[j].es (fun _ _ => rfl) q hq2] at A
    refine os ⟨_, rfl, A, NewRow.intro rfl (ent_one _) rfl fun h17 n17 => ⟨_, rda n17.rd rfl, cf (bne_no e1) ⟨⟨q + 1, _, by omega, hq', H2.no n17.fr (ag_upd _ _ 0)⟩, ?_⟩⟩⟩
    show ((us[j].l : Int) - (k + 1)).toNat < ((us[j].l : Int) - k).toNat
    omega
theorem holds_E (H : Hs h col0 kb ys zs us zs.length us.length hh la lc col) (hz : zs.length < 1000000000000) (hn : us.length < 1000000000000) (hK : ∀ hh' col', Hs h col0 kb ys zs us zs.length us.length hh' la lc col' → K (.bool true) hh') : holdsE kb la ys.length hh K := by
  unfold holdsE
  obtain ⟨ia0, ic0, c0, _, _⟩ := H.cellI
  refine os ⟨_, _, _, c0, fun i hx => ∃ (j : Nat), i = j ∧ j ≤ zs.length ∧ hh = hx, fun i _ => ((zs.length : Int) - i).toNat, ⟨0, rfl, Nat.zero_le _, rfl⟩, ?_⟩
  rintro i _ ⟨j, ei, hj, rfl⟩
  refine cd (fun hlt => ?_) fun hge => holds_F H hn hK
  have hj' : j < zs.length := by omega
  have ein : i.toNat = j := by omega
  obtain ⟨ia, ic, c1, s1, k1⟩ := H.cellI
  obtain ⟨p, ep, cp⟩ := k1 j hj'
  have wv : IntKind.wrap .i64 ((-1000) - i) = -1000 - (j : Int) := by rw [wrap_i64 (by omega) (by omega)]; omega
  rw [ein, wv, wrap_i64 (n := i + 1) (by omega) (by omega)]
  refine os ⟨_, _, _, c1, ⟨by omega, by omega⟩, ?_⟩
  subst ep
  refine os ⟨_, _, _, cp, ?_⟩
  refine ⟨fun k hx => ∃ (q : Nat), k = q ∧ q ≤ zs[j].l ∧ hh = hx, fun k _ => ((zs[j].l : Int) - k).toNat, ⟨0, rfl, Nat.zero_le _, rfl⟩, ?_⟩
  rintro k _ ⟨q, ek, hq, rfl⟩
  have z2 := H.zi j hj'
  have omx := z2.2
  refine cd (fun hlt2 => ?_) fun hge2 => ⟨⟨j + 1, by omega, hj', rfl⟩, by show ((zs.length : Int) - (i + 1)).toNat < ((zs.length : Int) - i).toNat; omega⟩
  have hq' : q < zs[j].l := by omega
  have ekn : k.toNat = q := by omega
  rw [ekn, wrap_i64 (n := k + 1) (by omega) (by omega)]
  refine ⟨⟨by omega, hlt2⟩, ?_⟩
  have vl := intsV_len z2.1
  obtain ⟨p3, ep3, cp3⟩ := val_at z2.1.cells (j := q) (by unfold intsV; rw [List.length_map]; omega)
  have e1 := H.fi j hj' hj' (zs[j].vs[q]'(by omega)) (List.getElem_mem _)
  have e2 : (intsV zs[j].vs)[q]'(by unfold intsV; rw [List.length_map]; omega) = .int .i64 (zs[j].vs[q]'(by omega)) := by unfold intsV; rw [List.getElem_map]
  rw [e2] at cp3
  rw [ep3]
  refine os ⟨_, cp3, cf (bne_no e1) ⟨⟨q + 1, by omega, hq', rfl⟩, ?_⟩⟩
  show ((zs[j].l : Int) - (k + 1)).toNat < ((zs[j].l : Int) - k).toNat
  omega
theorem holds_D (H : Hs h col0 kb ys zs us zs.length us.length hh la lc col) (hy : ys.length < 1000000000000) (hz : zs.length < 1000000000000) (hn : us.length < 1000000000000) (hK : ∀ hh' col', Hs h col0 kb ys zs us zs.length us.length hh' la lc col' → K (.bool true) hh') : holdsD kb la ys.length hh K := by
  unfold holdsD
  refine ⟨fun i hx => ∃ (j : Nat) (col' : Nat → Nat), i = j ∧ j ≤ ys.length ∧ Hs h col0 kb ys zs us zs.length us.length hx la lc col', fun i _ => ((ys.length : Int) - i).toNat, ⟨0, col, rfl, Nat.zero_le _, H⟩, ?_⟩
  rintro i h15 ⟨j, col1, ei, hj, H1⟩
  refine cd (fun hlt => ?_) fun hge => holds_E H1 hz hn hK
  have hj' : j < ys.length := by omega
  have ein : i.toNat = j := by omega
  obtain ⟨p, ep, cp⟩ := row_part5 H1.l.cells hj'
  rw [ein, wrap_i64 (n := i + 1) (by omega) (by omega)]
  refine ⟨⟨by omega, hlt⟩, ?_⟩
  subst ep
  refine os ⟨_, rfl, cp, NewRow.intro rfl (Hb.one _) rfl fun h8 n8 => ?_⟩
  have H2 := H1.no n8.fr (ag_upd _ _ 0)
  have u := H2.up j hj'
  generalize upd col1 h15.size 0 = col2 at H2 u
  have mx := u.max
  have bl : ys[j].bs.length = ys[j].l := by have := u.sl.1; rw [List.length_map] at this; omega
  have bl2 : ys[j].bs.length = ys[j].n + 3 := by rw [u.full, List.length_replicate]
  refine ⟨_, _, _, rda n8.rd rfl, fun k hx => ∃ (q : Nat), k = q ∧ q ≤ ys[j].l ∧ h8 = hx, fun k _ => ((ys[j].l : Int) - k).toNat, ⟨0, rfl, Nat.zero_le _, rfl⟩, ?_⟩
  rintro k _ ⟨q, ek, hq, rfl⟩
  refine cd (fun hlt2 => ?_) fun hge2 => ?_
  · have hq' : q < ys[j].l := by omega
    have ekn : k.toNat = q := by omega
    rw [ekn, wrap_i64 (n := k + 1) (by omega) (by omega)]
    refine ⟨⟨by omega, hlt2⟩, ?_⟩
    obtain ⟨p3, ep3, cp3⟩ := val_at u.sl.cells (j := q) (by rw [List.length_map]; omega)
    have e1 : ys[j].bs[q]'(by omega) = ys[j].mark := by
      have := List.getElem_mem (l := ys[j].bs) (n := q) (by omega)
      have e : ∀ x ∈ ys[j].bs, x = ys[j].mark := by rw [u.full]; exact fun x hx => List.eq_of_mem_replicate hx
      exact e _ this
    rw [List.getElem_map, e1] at cp3
    rw [ep3]
    refine os ⟨_, cp3, _, rda n8.rd rfl, cf (bne_no rfl) ⟨⟨q + 1, by omega, hq', rfl⟩, ?_⟩⟩
    show ((ys[j].l : Int) - (k + 1)).toNat < ((ys[j].l : Int) - k).toNat
    omega
  · refine ⟨_, _, _, rda n8.rd rfl, _, rda n8.rd rfl, cf (bne_no ?_) ⟨⟨j + 1, col2, by omega, hj', H2⟩, ?_⟩⟩
    · rw [wrap_i64 (by omega) (by omega)]; omega
    · show ((ys.length : Int) - (i + 1)).toNat < ((ys.length : Int) - i).toNat
      omega
end
end Go.Proofs.Ytnbfaokpaiiojaa.Ap
/-
  bolelaw03.AdiskPlays: the book holds at its end: it answers true.
-/
namespace Go.Proofs.Ytnbfaokpaiiojaa.Ap
open Go Go.Proofs Go.Proofs.Ytnbfaokpaiiojaa.Wx Go.Proofs.Ytnbfaokpaiiojaa.Hp Go.Proofs.Ytnbfaokpaiiojaa.W Go.Proofs.Ytnbfaokpaiiojaa.Ad Go.Proofs.Ytnbfaokpaiiojaa.L3 Go.Proofs.Ytnbfaokpaiiojaa.Rf

section
variable {h : Heap} {col : Nat → Nat} {kb c : Nat} {xs : List Hb} {is : List Li} {ats : List La} {K : Value → Heap → Prop}
theorem holds_spec (B : Bk h col kb xs is ats c) (hc : c < 1000000000000) (hK : ∀ h' col', Fr (fun b => 29 ≤ col b) h h' → Ag h.size col col' → K (.bool true) h') : C.bolelaw03_Book_holds (some ⟨kb, 0, none⟩) h K := by
  have nx := B.nx
  have ni := B.ni
  have na := B.na
  refine holdsA B hc fun ra rc la lc hh col' ys G => ?_
  have yl := G.yl
  rw [← yl]
  have H : Hs h col kb ys is ats 0 0 hh la lc col' := by
    obtain ⟨ba, bc, ia, ic, ta, tc, aa, ac, wa, wc, r, s1, s2, s3, s4, s5⟩ := G.q.rows
    rw [li_map] at s2
    rw [la_map] at s4
    exact ⟨G.fr, G.ag, G.q.sc, G.q.so, ⟨_, _, _, _, _, _, _, _, _, _, _, r, s2, s4⟩, by rw [yl]; exact G.l, G.up, fun i hi => ⟨(G.q.bi i hi).s, by have := (G.q.bi i hi).max; omega⟩, fun i hi => ⟨(G.q.ba i hi).s, (G.q.ba i hi).e.1, by have := (G.q.ba i hi).max; omega⟩, fun i hi _ => (G.q.bi i hi).max, fun i hi _ => (G.q.ba i hi).max, fun i hi y => absurd y (Nat.not_lt_zero _), fun i hi y => absurd y (Nat.not_lt_zero _)⟩
  refine holds_B H (by omega) fun h1 col1 zs ez H1 => holds_C H1 (by omega) fun h2 col2 us eu H2 => holds_D H2 (by omega) (by omega) (by omega) fun h3 col3 H3 => hK h3 col3 H3.fr H3.ag
end
end Go.Proofs.Ytnbfaokpaiiojaa.Ap
/-
  bolelaw03.AdiskPlays: other colours.
-/
namespace Go.Proofs.Ytnbfaokpaiiojaa.Ap
open Go Go.Proofs Go.Proofs.Ytnbfaokpaiiojaa.Wx Go.Proofs.Ytnbfaokpaiiojaa.Hp Go.Proofs.Ytnbfaokpaiiojaa.W Go.Proofs.Ytnbfaokpaiiojaa.Ad Go.Proofs.Ytnbfaokpaiiojaa.L3 Go.Proofs.Ytnbfaokpaiiojaa.Rf

theorem ref_recol {h : Heap} {d : Option Addr} {S : FD} {col col' : Nat → Nat} {m : Nat} (D : RefAt h d S col m) (hr : ∀ b, m ≤ col b → col b ≤ m + 5 → col' b = col b) : RefAt h d S col' m := by
  obtain ⟨b, r, es, e, D⟩ := D
  have q : ∀ k, m ≤ k → k ≤ m + 5 → ∀ b, col b = k → col' b = k := fun k h1 h2 b hb => (hr b (by omega) (by omega)).trans hb
  exact ⟨b, r, es, e, q m (Nat.le_refl _) (by omega) b D.sc, D.so, D.sr, D.left, D.out, D.writes, D.flushes, D.f.mono (q _ (by omega) (by omega)), D.fn, D.fmax, D.a.mono (q _ (by omega) (by omega)), D.an, D.amax, Ents.recol (q _ (by omega) (by omega)) D.ts, D.k.mono (q _ (by omega) (by omega)), D.kn⟩
theorem Pr.recol {h : Heap} {col col' : Nat → Nat} {m c : Nat} {d r : Option Addr} {D : RD} {S : FD} (P : Pr h col m d r D S c) (hr : ∀ b, m ≤ col b → col b ≤ m + 11 → col' b = col b) : Pr h col' m d r D S c :=
  { P with d := P.d.recol fun b h1 h2 => hr b h1 (by omega), r := ref_recol P.r fun b h1 h2 => hr b (by omega) (by omega) }
theorem Bk.recol {h : Heap} {col col' : Nat → Nat} {kb c : Nat} {xs : List Hb} {is : List Li} {ats : List La} (B : Bk h col kb xs is ats c) (hr : ∀ b, 30 ≤ col b → col' b = col b) : Bk h col' kb xs is ats c := by
  have q : ∀ k, 30 ≤ k → ∀ b, col b = k → col' b = k := fun k h1 b hb => (hr b (by omega)).trans hb
  obtain ⟨ba, bc, ia, ic, ta, tc, aa, ac, wa, wc, r, s1, s2, s3, s4, s5⟩ := B.rows
  exact ⟨q 30 (Nat.le_refl _) _ B.sc, B.so, ⟨ba, bc, ia, ic, ta, tc, aa, ac, wa, wc, r, s1.mono (q _ (by decide)), s2.mono (q _ (by decide)), s3.mono (q _ (by decide)), s4.mono (q _ (by decide)), s5.mono (q _ (by decide))⟩,
    fun i hi => { B.bx i hi with sl := (B.bx i hi).sl.mono (q _ (by omega)) }, fun i hi => { B.bi i hi with s := (B.bi i hi).s.mono (q _ (by omega)), t := (B.bi i hi).t.mono (q _ (by omega)) }, fun i hi => { B.ba i hi with s := (B.ba i hi).s.mono (q _ (by omega)), t := (B.ba i hi).t.mono (q _ (by omega)) }, B.nx, B.ni, B.na⟩
end Go.Proofs.Ytnbfaokpaiiojaa.Ap
/-
  bolelaw03.AdiskPlays: two pairs beside one another, and the book; one step of a script.
-/
namespace Go.Proofs.Ytnbfaokpaiiojaa.Ap
open Go Go.Proofs Go.Proofs.Ytnbfaokpaiiojaa.Wx Go.Proofs.Ytnbfaokpaiiojaa.Hp Go.Proofs.Ytnbfaokpaiiojaa.W Go.Proofs.Ytnbfaokpaiiojaa.Ad Go.Proofs.Ytnbfaokpaiiojaa.L3 Go.Proofs.Ytnbfaokpaiiojaa.Rf

/-- one of the two: none, or alike -/
def Pq (h : Heap) (col : Nat → Nat) (m : Nat) (d r : Option Addr) (c : Nat) : Prop := d = none ∨ ∃ D S, Pr h col m d r D S c
theorem Pq.keep {h h' : Heap} {col col' : Nat → Nat} {m c : Nat} {d r : Option Addr} (P : Pq h col m d r c) {F : Nat → Prop} (f : Fr F h h') (g : Ag h.size col col') (hF : ∀ b, m ≤ col b → col b ≤ m + 11 → ¬ F b) : Pq h' col' m d r c :=
  P.elim .inl fun ⟨D, S, P⟩ => .inr ⟨D, S, P.keep f g hF⟩
theorem Pq.le {h : Heap} {col : Nat → Nat} {m c c' : Nat} {d r : Option Addr} (P : Pq h col m d r c) (hc : c ≤ c') : Pq h col m d r c' := P.elim .inl fun ⟨D, S, P⟩ => .inr ⟨D, S, P.le hc⟩
theorem Pq.recol {h : Heap} {col col' : Nat → Nat} {m c : Nat} {d r : Option Addr} (P : Pq h col m d r c) (hr : ∀ b, m ≤ col b → col b ≤ m + 11 → col' b = col b) : Pq h col' m d r c := P.elim .inl fun ⟨D, S, P⟩ => .inr ⟨D, S, P.recol hr⟩
structure Tw (h1 : Heap) (lp kb : Nat) (h : Heap) (col : Nat → Nat) (dd rr : Nat → Option Addr) (c cb : Nat) : Prop where
  fr : Fr No h1 h
  ag : Ag h1.size (fun _ => 0) col
  lo : h1.size ≤ lp
  sc : col lp = 0
  so : Own h lp
  rl : rd h lp = [.pointer (dd 0), .pointer (rr 0), .pointer (dd 1), .pointer (rr 1)]
  p : ∀ i, i < 2 → Pq h col (1 + 12 * i) (dd i) (rr i) c
  b : ∃ xs is ats, Bk h col kb xs is ats cb
section
variable {h1 h h' : Heap} {lp kb c cb : Nat} {col col' : Nat → Nat} {dd rr : Nat → Option Addr}
theorem Tw.no (T : Tw h1 lp kb h col dd rr c cb) (f : Fr No h h') (g : Ag h.size col col') : Tw h1 lp kb h' col' dd rr c cb := by
  have l := T.so.lt
  obtain ⟨xs, is, ats, B⟩ := T.b
  exact ⟨T.fr.no f, T.ag.trans g T.fr.size, T.lo, (g _ l).trans T.sc, f.own l (fun y => y) T.so, (f.rd l fun y => y).trans T.rl, fun i hi => (T.p i hi).keep f g fun _ _ _ y => y, ⟨xs, is, ats, B.no f g⟩⟩
theorem Tw.le (T : Tw h1 lp kb h col dd rr c cb) {c' cb' : Nat} (hc : c ≤ c') (hb : cb ≤ cb') : Tw h1 lp kb h col dd rr c' cb' := by
  obtain ⟨xs, is, ats, B⟩ := T.b
  exact ⟨T.fr, T.ag, T.lo, T.sc, T.so, T.rl, fun i hi => (T.p i hi).le hc, ⟨xs, is, ats, B.le hb⟩⟩
theorem Tw.d (T : Tw h1 lp kb h col dd rr c cb) {i : Nat} (hi : i < 2) : cellOf h (Addr.add (Addr.add ⟨lp, 0, none⟩ (i * 2)) 0) = some (.pointer (dd i)) := by
  rw [add_mk, add_mk, cellOf_rd, T.rl]
  rcases i with _ | _ | i
  · rfl
  · rfl
  · omega
theorem Tw.r (T : Tw h1 lp kb h col dd rr c cb) {i : Nat} (hi : i < 2) : cellOf h (Addr.add (Addr.add ⟨lp, 0, none⟩ (i * 2)) 1) = some (.pointer (rr i)) := by
  rw [add_mk, add_mk, cellOf_rd, T.rl]
  rcases i with _ | _ | i
  · rfl
  · rfl
  · omega
theorem Tw.dr (T : Tw h1 lp kb h col dd rr c cb) {i : Nat} (hi : i < 2) : Cells h (Addr.add ⟨lp, 0, none⟩ (i * 2)) (prV (dd i) (rr i)) := by
  refine cellsa T.rl ?_
  rcases i with _ | _ | i
  · rfl
  · rfl
  · omega
/-- one pair and the book are others now -/
theorem Tw.plays (T : Tw h1 lp kb h col dd rr c cb) {i : Nat} (hi : i < 2) {c' cb' : Nat} (hc : c ≤ c') {F : Nat → Prop} (f : Fr F h h') (g : Ag h.size col col') (hF0 : ∀ b, col b = 0 → ¬ F b) (hFo : ∀ b j, j < 2 → j ≠ i → 1 + 12 * j ≤ col b → col b ≤ 1 + 12 * j + 11 → ¬ F b) (hp : Pq h' col' (1 + 12 * i) (dd i) (rr i) c') (hb : ∃ xs is ats, Bk h' col' kb xs is ats cb') : Tw h1 lp kb h' col' dd rr c' cb' := by
  have l := T.so.lt
  refine ⟨T.fr.trans f fun b hb y => (hF0 b (T.ag b hb) y).elim, T.ag.trans g T.fr.size, T.lo, (g _ l).trans T.sc, f.own l (hF0 _ T.sc) T.so, (f.rd l (hF0 _ T.sc)).trans T.rl, fun j hj => ?_, hb⟩
  by_cases e : j = i
  · rw [e]; exact hp
  · exact ((T.p j hj).keep f g fun b y1 y2 => hFo b j hj e y1 y2).le hc
end
end Go.Proofs.Ytnbfaokpaiiojaa.Ap
/-
  bolelaw03.AdiskPlays: one step of a script.
-/
namespace Go.Proofs.Ytnbfaokpaiiojaa.Ap
open Go Go.Proofs Go.Proofs.Ytnbfaokpaiiojaa.Wx Go.Proofs.Ytnbfaokpaiiojaa.Hp Go.Proofs.Ytnbfaokpaiiojaa.W Go.Proofs.Ytnbfaokpaiiojaa.Ad Go.Proofs.Ytnbfaokpaiiojaa.L3 Go.Proofs.Ytnbfaokpaiiojaa.Rf

section
variable {h1 h h' : Heap} {lp kb c cb : Nat} {col col' : Nat → Nat} {dd rr : Nat → Option Addr}
/-- a call of one pair -/
theorem calls_spec {i : Nat} (hi : i < 2) {kind n : Int} {two : Bool} {ba ka : Option Addr} {bl bc kl kc : Nat} {bs : List UInt8} {keep : List Bool} {K : Value → Heap → Prop} (T : Tw h1 lp kb h col dd rr c cb) (hd : dd i ≠ none) (hc : c < 1000000) (hcb : cb + 2 * c + 2 < 1000000000000)
    (B : StrAt h ba bl bs) (hbl : bl < 140737488355328) (hba : ∀ p, ba = some p → bs ≠ [] → col p.block = 0) (Kp : SlCells h ka (keep.map .bool)) (hkl : keep.length = kl) (hkm : kl < 140737488355328) (hka : ∀ p, ka = some p → keep ≠ [] → col p.block = 0) (hn : n ≤ 9223372036854775807)
    (hK : ∀ h' col', Ag h.size col col' → Tw h1 lp kb h' col' dd rr (c + 1) (cb + 2 * c + 2) → K (.bool true) h') :
    C.bolelaw03_Pair_plays (prV (dd i) (rr i)) (opV kind two n ba bl bc ka kl kc) (some ⟨kb, 0, none⟩) h K := by
  obtain ⟨xs, is, ats, B0⟩ := T.b
  rcases T.p i hi with e | ⟨D, S, P⟩
  · exact absurd e hd
  refine plays_spec P (by omega) hc B hbl hba Kp hkl hkm hka hn (fun h' col' D' S' f g P' => hK h' col' g ?_) fun h2 f2 => ?_
  · refine T.plays hi (Nat.le_succ _) f g (fun b y1 y => ?_) (fun b j hj e y1 y2 y => ?_) (.inr ⟨D', S', P'⟩) ⟨xs, is, ats, (B0.keep f g fun b y1 y => ?_).le (by omega)⟩
    · have := y.1; omega
    · have := y.1; have := y.2; omega
    · have := y.2; omega
  · refine looks_spec (P.no f2 (Ag.refl _ _)) (B0.no f2 (Ag.refl _ _)) (by omega) hc hcb fun h' col' xs' is' ats' f g P' B' => ⟨_, rfl, hK h' col' ((Ag.refl _ _).trans g f2.size) ?_⟩
    have T2 := T.no f2 (Ag.refl _ _)
    refine T2.plays hi (Nat.le_succ _) f g (fun b y1 y => ?_) (fun b j hj e y1 y2 y => ?_) (.inr ⟨D, S, P'.le (Nat.le_succ _)⟩) ⟨xs', is', ats', B'⟩
    · have y : 30 ≤ col b := y
      omega
    · have y : 30 ≤ col b := y
      omega
theorem image_len {S : FD} (ok : S.Ok) {h : Heap} {a : Option Addr} {l c : Nat} {F : Nat → Prop} (s : Sl h 1 a l c (S.image.flatten.map bv) F) : S.image.flatten.length = l := by
  have := s.1
  rw [List.length_map] at this
  omega
/-- a pair is opened anew of what it answers as its image -/
theorem opens_spec {i : Nat} (hi : i < 2) {K : Value → Heap → Prop} (T : Tw h1 lp kb h col dd rr c cb) (hd : dd i ≠ none)
    (hK : ∀ h' q q2 col', Fr No h h' → col' lp = 0 → (∀ b, b < h1.size → col' b = 0) → (∀ j, j < 2 → j ≠ i → Pq h' col' (1 + 12 * j) (dd j) (rr j) c) → (∃ D S, Pr h' col' (1 + 12 * i) (some q) (some q2) D S c) → (∃ xs is ats, Bk h' col' kb xs is ats cb) →
      K (.tuple #[.agg ⟨[.pointer (some q), .pointer (some q2)]⟩, .bool true]) h') :
    C.boleref03_Disk_Image (rr i) h fun r4 h14 => ∃ (a : Option Addr) (l : Nat) (cc : Nat), r4 = .slice a l cc ∧ C.bolelaw03_opened a l cc h14 K := by
  obtain ⟨xs, is, ats, B0⟩ := T.b
  rcases T.p i hi with e | ⟨D, S, P⟩
  · exact absurd e hd
  refine Rf.Image_spec P.r P.s.ok fun a cc h2 f2 s2 => ⟨_, _, _, rfl, ?_⟩
  have z2 := f2.size
  have ll := T.so.lt
  have l1 := T.fr.size
  have pos := P.pos
  have mx := P.s.ok.max
  have lo := T.lo
  have g2 : Ag h.size col (fun b => if b < h.size then col b else 0) := fun b hb => if_pos hb
  have hz : ∀ b, h.size ≤ b → (fun b => if b < h.size then col b else 0) b = 0 := fun b hb => if_neg (by omega)
  have Bk2 := B0.no f2 g2
  have Po := fun j (hj : j < 2) => (T.p j hj).keep f2 g2 fun _ _ _ y => y
  have a2 : ∀ b, b < h1.size → (fun b => if b < h.size then col b else 0) b = 0 := fun b hb => (g2 b (by omega)).trans (T.ag b hb)
  have lp2 := (g2 lp ll).trans T.sc
  generalize (fun b => if b < h.size then col b else 0) = col2 at g2 hz Bk2 Po a2 lp2
  have e3 : ∀ b, (fun b => if 1 + 12 * i ≤ col2 b ∧ col2 b ≤ 1 + 12 * i + 11 then 0 else col2 b) b = if 1 + 12 * i ≤ col2 b ∧ col2 b ≤ 1 + 12 * i + 11 then 0 else col2 b := fun _ => rfl
  generalize (fun b => if 1 + 12 * i ≤ col2 b ∧ col2 b ≤ 1 + 12 * i + 11 then 0 else col2 b) = col3 at e3
  have keep3 : ∀ b, ¬ (1 + 12 * i ≤ col2 b ∧ col2 b ≤ 1 + 12 * i + 11) → col3 b = col2 b := fun b y => (e3 b).trans (if_neg y)
  have F1 : ∀ b, ¬ (1 + 12 * i ≤ col3 b ∧ col3 b ≤ 1 + 12 * i + 11) := fun b y => by
    by_cases e : 1 + 12 * i ≤ col2 b ∧ col2 b ≤ 1 + 12 * i + 11
    · rw [e3, if_pos e] at y; omega
    · rw [keep3 b e] at y; exact e y
  have il := image_len P.s.ok s2
  have Bk3 := Bk2.recol (col' := col3) fun b y => keep3 b (by omega)
  have P3 : ∀ j, j < 2 → j ≠ i → Pq h2 col3 (1 + 12 * j) (dd j) (rr j) c := fun j hj e => (Po j hj).recol fun b y1 y2 => keep3 b (by omega)
  have a3 : ∀ b, b < h1.size → col3 b = 0 := fun b hb => (keep3 b (by have := a2 b hb; omega)).trans (a2 b hb)
  have lp3 : col3 lp = 0 := (keep3 lp (by omega)).trans lp2
  refine opened_spec col3 (1 + 12 * i) (1 + 12 * i + 6) (by omega) (by omega) (fun b _ y1 y2 => F1 b ⟨by omega, by omega⟩) (fun b _ y1 y2 => F1 b ⟨by omega, by omega⟩) s2.str s2.le (by omega) (fun bad => ?_) fun y1 y2 y3 q q2 h' col' f g Dn Rn => ?_
  · rcases bad with y | y | y
    · omega
    · omega
    · omega
  · refine hK h' q q2 col' (f2.no f) ((g lp (by omega)).trans lp3) (fun b hb => (g b (by omega)).trans (a3 b hb)) (fun j hj e => (P3 j hj e).keep f g fun _ _ _ y => y) ⟨_, _, Dn, Rn, sm_fresh (by omega) (by omega), ?_, Nat.zero_le _, fun t ht => absurd ht (by show ¬ t ∈ []; simp)⟩ ⟨_, _, _, Bk3.no f g⟩
    show 0 < S.image.flatten.length / 512
    omega
end
end Go.Proofs.Ytnbfaokpaiiojaa.Ap
/-
  bolelaw03.AdiskPlays: one step of a script, as it stands in the law.
-/
namespace Go.Proofs.Ytnbfaokpaiiojaa.Ap
open Go Go.Proofs Go.Proofs.Ytnbfaokpaiiojaa.Wx Go.Proofs.Ytnbfaokpaiiojaa.Hp Go.Proofs.Ytnbfaokpaiiojaa.W Go.Proofs.Ytnbfaokpaiiojaa.Ad Go.Proofs.Ytnbfaokpaiiojaa.L3 Go.Proofs.Ytnbfaokpaiiojaa.Rf

section
variable {h1 h3 h9 h11 h13 : Heap} {c cb : Nat} {col : Nat → Nat} {dd rr : Nat → Option Addr}
theorem k3_spec {i : Nat} (hi : i < 2) {i1 n5 : Int} (ei : i1 = i) {I1 : Int → Heap → Prop} {M1 : Int → Heap → Nat} {kind n : Int} {two : Bool} {ba ka : Option Addr} {bl bc kl kc : Nat} {bs : List UInt8} {keep : List Bool} {K : Value → Heap → Prop} (T : Tw h1 h3.size h9.size h13 col dd rr c cb) (hc : c < 1000000) (hcb : cb + 2 * c + 2 < 1000000000000)
    (hop : rd h13 h11.size = opV kind two n ba bl bc ka kl kc) (B : StrAt h13 ba bl bs) (hbl : bl < 140737488355328) (hba : ∀ p, ba = some p → bs ≠ [] → col p.block = 0) (Kp : SlCells h13 ka (keep.map .bool)) (hkl : keep.length = kl) (hkm : kl < 140737488355328) (hka : ∀ p, ka = some p → keep ≠ [] → col p.block = 0) (hn : n ≤ 9223372036854775807)
    (hX : ∀ h' col' dd' rr', Tw h1 h3.size h9.size h' col' dd' rr' (c + 1) (cb + 2 * c + 2) → I1 (IntKind.wrap .i64 (n5 + 1)) h' ∧ M1 (IntKind.wrap .i64 (n5 + 1)) h' < M1 n5 h11) :
    bolelaw03_AdiskPlays.k3 h3 h9 n5 h11 I1 M1 h13 i1 K := by
  subst ei
  unfold bolelaw03_AdiskPlays.k3
  rw [Int.toNat_natCast]
  have bnd : 0 ≤ (i : Int) ∧ (i : Int) < 2 := by omega
  refine ⟨bnd, _, T.d hi, ?_⟩
  cases hdd : dd i with
  | none => exact ct rfl (hX h13 col dd rr (T.le (Nat.le_succ _) (by omega)))
  | some q0 =>
    refine cf rfl ⟨_, rda hop rfl, ?_⟩
    have nn : dd i ≠ none := by rw [hdd]; simp
    cases hk : (kind == 10) with
    | false =>
      refine cf rfl ⟨bnd, _, rfl, T.dr hi, _, rfl, cellsAll hop, calls_spec hi T nn hc hcb B hbl hba Kp hkl hkm hka hn fun h' col' _ T' => ⟨_, rfl, cnot (ct rfl (hX h' col' dd rr T'))⟩⟩
    | true =>
      refine ct rfl ⟨bnd, _, T.r hi, opens_spec hi T nn fun h15 q q2 col' f lp0 a0 po pn bk => ⟨_, _, rfl, NewRow.intro rfl (one2 rfl rfl) rfl fun h17 n17 => cnot (ct rfl ⟨_, rda n17.rd rfl, cf rfl ⟨_, rfl, cellsAll n17.rd, bnd, ?_⟩⟩)⟩⟩
      have lp := T.so.lt
      have z15 := f.size
      have lo := T.lo
      have f17 : Fr No h13 h17 := f.no n17.fr
      have r17 := (f17.rd lp fun y => y).trans T.rl
      have o17 := f17.own lp (fun y => y) T.so
      refine PutRow.add o17 rfl (one2 rfl rfl) (by rw [r17]; show 0 + i * 2 + 2 ≤ 4; omega) fun h18 d18 => hX h18 col' (fun j => if j = i then some q else dd j) (fun j => if j = i then some q2 else rr j) ?_
      have nl : ∀ b, 0 < col' b → ¬ (fun x => x = h3.size) b := fun b hb (y : b = h3.size) => by rw [y, lp0] at hb; exact absurd hb (Nat.lt_irrefl 0)
      refine ⟨(T.fr.no f17).trans d18.fr fun b hb (y : b = h3.size) => by omega, a0, lo, lp0, d18.own, ?_, fun j hj => ?_, ?_⟩
      · rw [d18.rd, r17]
        rcases i with _ | _ | i
        · rfl
        · rfl
        · omega
      · by_cases e : j = i
        · subst e
          obtain ⟨D, S, P⟩ := pn
          rw [if_pos rfl, if_pos rfl]
          exact .inr ⟨D, S, ((P.no n17.fr (Ag.refl _ _)).keep d18.fr (Ag.refl _ _) fun b y1 _ => nl b (by omega)).le (Nat.le_succ _)⟩
        · rw [if_neg e, if_neg e]
          exact (((po j hj e).keep n17.fr (Ag.refl _ _) fun _ _ _ y => y).keep d18.fr (Ag.refl _ _) fun b y1 _ => nl b (by omega)).le (Nat.le_succ _)
      · obtain ⟨xs, is, ats, B⟩ := bk
        exact ⟨xs, is, ats, ((B.no n17.fr (Ag.refl _ _)).keep d18.fr (Ag.refl _ _) fun b y1 => nl b (by omega)).le (by omega)⟩
end
end Go.Proofs.Ytnbfaokpaiiojaa.Ap
/-
  bolelaw03.AdiskPlays: the script's loop and what is asked at its end.
-/
namespace Go.Proofs.Ytnbfaokpaiiojaa.Ap
open Go Go.Proofs Go.Proofs.Ytnbfaokpaiiojaa.Wx Go.Proofs.Ytnbfaokpaiiojaa.Hp Go.Proofs.Ytnbfaokpaiiojaa.W Go.Proofs.Ytnbfaokpaiiojaa.Ad Go.Proofs.Ytnbfaokpaiiojaa.L3 Go.Proofs.Ytnbfaokpaiiojaa.Rf

section
variable {h1 h h' : Heap} {lp kb c cb : Nat} {col col' : Nat → Nat} {dd rr : Nat → Option Addr}
theorem looks2 {i : Nat} (hi : i < 2) {kind n : Int} {two : Bool} {ba ka : Option Addr} {bl bc kl kc : Nat} {K : Value → Heap → Prop} (T : Tw h1 lp kb h col dd rr c cb) (hd : dd i ≠ none) (hc : c < 1000000) (hcb : cb + 2 * c + 2 < 1000000000000)
    (hK : ∀ h' col', Fr (fun b => 30 ≤ col b) h h' → Ag h.size col col' → Tw h1 lp kb h' col' dd rr c (cb + 2 * c + 2) → K (.bool true) h') :
    C.bolelaw03_Pair_looks (prV (dd i) (rr i)) (opV kind two n ba bl bc ka kl kc) (some ⟨kb, 0, none⟩) h K := by
  obtain ⟨xs, is, ats, B0⟩ := T.b
  rcases T.p i hi with e | ⟨D, S, P⟩
  · exact absurd e hd
  refine looks_spec P B0 (by omega) hc hcb fun h' col' xs' is' ats' f g P' B' => hK h' col' f g ?_
  refine T.plays hi (Nat.le_refl _) f g (fun b y1 y => ?_) (fun b j hj e y1 y2 y => ?_) (.inr ⟨D, S, P'⟩) ⟨xs', is', ats', B'⟩
  · have y : 30 ≤ col b := y
    omega
  · have y : 30 ≤ col b := y
    omega
theorem asks2 {i : Nat} (hi : i < 2) {K : Value → Heap → Prop} (T : Tw h1 lp kb h col dd rr c cb) (hd : dd i ≠ none) (hK : ∀ h', Fr No h h' → K (.bool true) h') : C.bolelaw03_Pair_asks (prV (dd i) (rr i)) h K := by
  rcases T.p i hi with e | ⟨D, S, P⟩
  · exact absurd e hd
  exact asks_spec P.d P.r P.s.len P.s.down P.s.writes P.s.flushes hK
theorem Tw.holds {K : Value → Heap → Prop} (T : Tw h1 lp kb h col dd rr c cb) (hcb : cb < 1000000000000) (hK : ∀ h', Fr No h1 h' → K (.bool true) h') : C.bolelaw03_Book_holds (some ⟨kb, 0, none⟩) h K := by
  obtain ⟨xs, is, ats, B0⟩ := T.b
  exact holds_spec B0 hcb fun h' col' f g => hK h' (T.fr.trans f fun b hb y => by have y : 29 ≤ col b := y; have e : col b = 0 := T.ag b hb; omega)
end
end Go.Proofs.Ytnbfaokpaiiojaa.Ap
/-
  bolelaw03.AdiskPlays: the script's loop and the end, as they stand in the law.
-/
namespace Go.Proofs.Ytnbfaokpaiiojaa.Ap
open Go Go.Proofs Go.Proofs.Ytnbfaokpaiiojaa.Wx Go.Proofs.Ytnbfaokpaiiojaa.Hp Go.Proofs.Ytnbfaokpaiiojaa.W Go.Proofs.Ytnbfaokpaiiojaa.Ad Go.Proofs.Ytnbfaokpaiiojaa.L3 Go.Proofs.Ytnbfaokpaiiojaa.Rf

/-- a call of a script -/
structure OpI where
  kind : Int
  two : Bool
  n : Int
  ba : Option Addr
  bl : Nat
  bc : Nat
  ka : Option Addr
  kl : Nat
  kc : Nat
def OpI.cells (x : OpI) : List Value := opV x.kind x.two x.n x.ba x.bl x.bc x.ka x.kl x.kc
theorem OpI.one (x : OpI) : ∀ v ∈ x.cells, v.oneCell' = true := by
  intro v hv
  simp only [OpI.cells, opV, List.mem_cons, List.not_mem_nil, or_false] at hv
  rcases hv with rfl | rfl | rfl | rfl | rfl <;> rfl
def OpI.Ok (h : Heap) (x : OpI) : Prop := ∃ (bs : List UInt8) (keep : List Bool), StrAt h x.ba x.bl bs ∧ x.bl < 140737488355328 ∧ SlCells h x.ka (keep.map .bool) ∧ keep.length = x.kl ∧ x.kl < 140737488355328 ∧ x.n ≤ 9223372036854775807
theorem opened2 {a : Option Addr} {l c : Nat} {bs : List UInt8} {h : Heap} {K : Value → Heap → Prop} (col : Nat → Nat) (m : Nat) (hm0 : 0 < m) (hf : Free h col m) (hf2 : Free h col (m + 6)) (B : StrAt h a l bs) (hlc : l ≤ c) (hl : l < 140737488355328)
    (hK : ∀ h' col' d r, Fr No h h' → Ag h.size col col' → Pq h' col' m d r 0 → K (.tuple #[.agg ⟨[.pointer d, .pointer r]⟩, .bool true]) h') : C.bolelaw03_opened a l c h K := by
  have bl := B.1
  refine opened_spec col m (m + 6) hm0 (by omega) hf hf2 B hlc hl (fun _ h' f => hK h' col none none f (Ag.refl _ _) (.inl rfl)) fun y1 y2 y3 q q2 h' col' f g D R => hK h' col' _ _ f g (.inr ⟨_, _, D, R, sm_fresh (by omega) (by omega), ?_, Nat.zero_le _, fun t ht => absurd ht (by show ¬ t ∈ []; simp)⟩)
  show 0 < bs.length / 512
  omega
theorem row_op {h : Heap} {a : Option Addr} {xs : List OpI} (A : SlCells h a (xs.flatMap OpI.cells)) {j : Nat} (hj : j < xs.length) : ∃ p, a = some p ∧ Cells h (p.add (j * 5)) xs[j].cells := by
  have hl := flat_length OpI.cells 5 xs fun _ _ => rfl
  cases a with
  | none => have A : xs.flatMap OpI.cells = [] := A; rw [A] at hl; exact absurd hl (by simp; omega)
  | some p =>
    refine ⟨p, rfl, ?_⟩
    have := Cells.part A (j * 5) 5
    rw [flat_part OpI.cells 5 xs (fun _ _ => rfl) j hj] at this
    exact this
theorem k2_spec {h1 h3 : Heap} {col : Nat → Nat} {ia sa : Option Addr} {il ic : Nat} {ibs : List UInt8} {xs : List OpI} {q1 q2 : Option Addr} {K : Value → Heap → Prop} (F3 : Fr No h1 h3) (g3 : Ag h1.size (fun _ => 0) col) (P0 : Pq h3 col 1 q1 q2 0)
    (B : StrAt h1 ia il ibs) (hlc : il ≤ ic) (hil : il < 140737488355328) (S : SlCells h1 sa (xs.flatMap OpI.cells)) (hx : ∀ i (hi : i < xs.length), xs[i].Ok h1) (hL : xs.length ≤ 200000) (hK : ∀ h', Fr No h1 h' → K (.bool true) h') :
    bolelaw03_AdiskPlays.k2 ia il ic sa xs.length q1 h3 q2 K := by
  unfold bolelaw03_AdiskPlays.k2
  refine New.intro fun h4 n4 => ?_
  have z3 := F3.size
  have z4 := n4.size
  have P2 := P0.recol (col' := fun b => if 1 ≤ col b ∧ col b ≤ 12 then col b else 0) fun b y1 y2 => if_pos ⟨y1, by omega⟩
  have m2 : ∀ b, (fun b => if 1 ≤ col b ∧ col b ≤ 12 then col b else 0) b ≤ 12 := fun b => by
    show (if 1 ≤ col b ∧ col b ≤ 12 then col b else 0) ≤ 12
    split <;> omega
  have a2 : ∀ b, b < h1.size → (fun b => if 1 ≤ col b ∧ col b ≤ 12 then col b else 0) b = 0 := fun b hb => by
    have e : col b = 0 := g3 b hb
    show (if 1 ≤ col b ∧ col b ≤ 12 then col b else 0) = 0
    rw [e]; rfl
  generalize (fun b => if 1 ≤ col b ∧ col b ≤ 12 then col b else 0) = col2 at P2 m2 a2
  have g4 : Ag h3.size col2 (upd col2 h3.size 0) := ag_upd _ _ _
  have s4 : upd col2 h3.size 0 h3.size = 0 := upd_ge (Nat.le_refl _)
  have m4 : ∀ b, upd col2 h3.size 0 b ≤ 12 := fun b => by
    by_cases e : b < h3.size
    · rw [g4 b e]; exact m2 b
    · rw [upd_ge (by omega)]; omega
  have P4 := P2.keep n4.fr g4 fun _ _ _ y => y
  have a4 : ∀ b, b < h1.size → upd col2 h3.size 0 b = 0 := fun b hb => (g4 b (by omega)).trans (a2 b hb)
  generalize upd col2 h3.size 0 = col4 at g4 s4 m4 P4 a4
  refine ⟨⟨by decide, by decide⟩, PutRow.add n4.own rfl (one2 rfl rfl) (by rw [n4.rd]; decide) fun h5 d5 => ?_⟩
  have z5 := d5.size
  have r5 : rd h5 h3.size = [.pointer q1, .pointer q2, .pointer none, .pointer none] := by rw [d5.rd, n4.rd]; rfl
  have nl4 : ∀ b, 0 < col4 b → ¬ (fun x => x = h3.size) b := fun b hb (y : b = h3.size) => by rw [y, s4] at hb; exact absurd hb (Nat.lt_irrefl 0)
  have P5 := P4.keep d5.fr (Ag.refl _ _) fun b y1 _ => nl4 b (by omega)
  have F5 : Fr No h1 h5 := (F3.new n4).trans d5.fr fun b hb (y : b = h3.size) => by omega
  have B5 := StrAt.fr F5 B fun _ _ y => y
  refine opened2 col4 13 (by decide) (fun b _ y1 y2 => by have := m4 b; omega) (fun b _ y1 y2 => by have := m4 b; omega) B5 hlc hil fun h6 col6 d1 r1 f6 g6 P6 => ⟨_, _, rfl, NewRow.intro rfl (one2 rfl rfl) rfl fun h8 n8 => cnot (ct rfl ⟨_, rfl, cellsAll n8.rd, ⟨by decide, by decide⟩, ?_⟩)⟩
  have z6 := f6.size
  have z8 := n8.size
  have l5 : h3.size < h5.size := by omega
  have F8 : Fr No h5 h8 := f6.no n8.fr
  have r8 := (F8.rd l5 fun y => y).trans r5
  have o8 := F8.own l5 (fun y => y) d5.own
  have s6 : col6 h3.size = 0 := (g6 _ l5).trans s4
  have nl6 : ∀ b, 0 < col6 b → ¬ (fun x => x = h3.size) b := fun b hb (y : b = h3.size) => by rw [y, s6] at hb; exact absurd hb (Nat.lt_irrefl 0)
  refine PutRow.add o8 rfl (one2 rfl rfl) (by rw [r8]; exact (by decide : 0 + 1 * 2 + 2 ≤ 4)) fun h9 d9 => New.intro fun h10 n10 => ?_
  have z9 := d9.size
  have z10 := n10.size
  have r9 : rd h9 h3.size = [.pointer q1, .pointer q2, .pointer d1, .pointer r1] := by rw [d9.rd, r8]; rfl
  have g10 : Ag h9.size col6 (upd col6 h9.size 30) := ag_upd _ _ _
  have T : Tw h1 h3.size h9.size h10 (upd col6 h9.size 30) (fun j => if j = 0 then q1 else d1) (fun j => if j = 0 then q2 else r1) 0 0 := by
    refine ⟨((F5.no F8).trans d9.fr fun b hb (y : b = h3.size) => by omega).new n10, fun b hb => ((g10 b (by omega)).trans (g6 b (by omega))).trans (a4 b hb), by omega, (g10 _ (by omega)).trans s6, n10.ow d9.own, (n10.at_ (by omega)).trans r9, fun i hi => ?_, ⟨[], [], [], upd_ge (Nat.le_refl _), n10.own, ⟨_, _, _, _, _, _, _, _, _, _, n10.rd, Sl.nil _ _ _, Sl.nil _ _ _, Sl.nil _ _ _, Sl.nil _ _ _, Sl.nil _ _ _⟩, fun i hi => absurd hi (Nat.not_lt_zero _), fun i hi => absurd hi (Nat.not_lt_zero _), fun i hi => absurd hi (Nat.not_lt_zero _), Nat.zero_le _, Nat.zero_le _, Nat.zero_le _⟩⟩
    rcases i with _ | _ | i
    · exact (((P5.keep F8 g6 fun _ _ _ y => y).keep d9.fr (Ag.refl _ _) fun b y1 _ => nl6 b (by omega))).keep n10.fr g10 fun _ _ _ y => y
    · exact ((P6.keep n8.fr (Ag.refl _ _) fun _ _ _ y => y).keep d9.fr (Ag.refl _ _) fun b y1 _ => nl6 b (by omega)).keep n10.fr g10 fun _ _ _ y => y
    · omega
  refine ⟨fun i hx => ∃ (j : Nat) (col' : Nat → Nat) (dd' rr' : Nat → Option Addr), i = j ∧ j ≤ xs.length ∧ Tw h1 h3.size h9.size hx col' dd' rr' j (j * (2 * xs.length + 2)), fun i _ => ((xs.length : Int) - i).toNat, ⟨0, _, _, _, rfl, Nat.zero_le _, by rw [Nat.zero_mul]; exact T⟩, ?_⟩
  rintro i h11 ⟨j, col', dd', rr', ei, hj, T1⟩
  have bj : j * (2 * xs.length + 2) ≤ 200000 * 400002 := Nat.mul_le_mul (by omega) (by omega)
  refine cd (fun hlt => ?_) fun hge => ?_
  · have hj' : j < xs.length := by omega
    have ein : i.toNat = j := by omega
    obtain ⟨p, ep, cp⟩ := row_op (SlCells.fr T1.fr S fun _ _ y => y) hj'
    rw [ein]
    refine ⟨⟨by omega, hlt⟩, ?_⟩
    subst ep
    refine os ⟨_, rfl, cp, NewRow.intro rfl (OpI.one _) rfl fun h13 n13 => ⟨_, rda n13.rd rfl, ?_⟩⟩
    obtain ⟨bs, keep, x1, x2, x3, x4, x5, x6⟩ := hx j hj'
    have T2 := T1.no n13.fr (Ag.refl _ _)
    have y1 := StrAt.fr T2.fr x1 fun _ _ y => y
    have y3 := SlCells.fr T2.fr x3 fun _ _ y => y
    have w1 : ∀ p, xs[j].ba = some p → bs ≠ [] → col' p.block = 0 := fun p ep hb => T2.ag _ (by rw [ep] at x1; exact strAt_lt x1 hb)
    have w3 : ∀ p, xs[j].ka = some p → keep ≠ [] → col' p.block = 0 := fun p ep hb => T2.ag _ (by rw [ep] at x3; exact boolAt_lt x3 hb)
    have ej : (j + 1) * (2 * xs.length + 2) = j * (2 * xs.length + 2) + (2 * xs.length + 2) := Nat.succ_mul _ _
    have hX : ∀ h' col' dd' rr', Tw h1 h3.size h9.size h' col' dd' rr' (j + 1) (j * (2 * xs.length + 2) + 2 * j + 2) → (∃ (j : Nat) (col' : Nat → Nat) (dd' rr' : Nat → Option Addr), IntKind.wrap .i64 (i + 1) = j ∧ j ≤ xs.length ∧ Tw h1 h3.size h9.size h' col' dd' rr' j (j * (2 * xs.length + 2))) ∧ ((xs.length : Int) - IntKind.wrap .i64 (i + 1)).toNat < ((xs.length : Int) - i).toNat := fun h' c' d' r' T' => by
      rw [wrap_i64 (n := i + 1) (by omega) (by omega)]
      exact ⟨⟨j + 1, c', d', r', by omega, hj', T'.le (Nat.le_refl _) (by omega)⟩, by omega⟩
    cases htwo : xs[j].two with
    | false => exact cf rfl (k3_spec (i := 0) (by decide) rfl T2 (by omega) (by omega) n13.rd y1 x2 w1 y3 x4 x5 w3 x6 hX)
    | true => exact ct rfl (k3_spec (i := 1) (by decide) rfl T2 (by omega) (by omega) n13.rd y1 x2 w1 y3 x4 x5 w3 x6 hX)
  · refine ⟨_, rfl, cellsAll T1.rl, ?_⟩
    generalize j * (2 * xs.length + 2) = cb at bj T1
    refine ⟨fun i hx => ∃ (k : Nat) (col' : Nat → Nat), i = k ∧ k ≤ 2 ∧ Tw h1 h3.size h9.size hx col' dd' rr' j (cb + k * (6 * j + 6)), fun i _ => ((2 : Int) - i).toNat, ⟨0, col', rfl, by decide, by rw [Nat.zero_mul]; exact T1⟩, ?_⟩
    rintro i2 h20 ⟨k, col2, ei2, hk, T3⟩
    refine cd (fun hlt2 => ?_) fun hge2 => ?_
    rotate_left
    · obtain rfl : k = 2 := by omega
      exact T3.holds (by omega) fun h' f => ⟨_, rfl, hK h' f⟩
    have hk' : k < 2 := by omega
    have ein2 : i2.toNat = k := by omega
    have bk : k * (6 * j + 6) ≤ 6 * j + 6 := by rcases (by omega : k = 0 ∨ k = 1) with rfl | rfl <;> omega
    have ek : (k + 1) * (6 * j + 6) = k * (6 * j + 6) + (6 * j + 6) := Nat.succ_mul _ _
    rw [ein2, wrap_i64 (n := i2 + 1) (by omega) (by omega)]
    have er : List.take 2 (List.drop (k * 2) [Value.pointer (dd' 0), .pointer (rr' 0), .pointer (dd' 1), .pointer (rr' 1)]) = prV (dd' k) (rr' k) := by
      rcases k with _ | _ | k
      · rfl
      · rfl
      · omega
    rw [er]
    have fin : ∀ h' col'', Tw h1 h3.size h9.size h' col'' dd' rr' j (cb + k * (6 * j + 6) + 6 * j + 6) → (∃ (k : Nat) (col' : Nat → Nat), i2 + 1 = k ∧ k ≤ 2 ∧ Tw h1 h3.size h9.size h' col' dd' rr' j (cb + k * (6 * j + 6))) ∧ ((2 : Int) - (i2 + 1)).toNat < ((2 : Int) - i2).toNat := fun h' c'' T' => ⟨⟨k + 1, c'', by omega, hk', by rw [ek]; exact T'.le (Nat.le_refl _) (by omega)⟩, by omega⟩
    refine ⟨⟨by omega, hlt2⟩, NewRow.intro rfl (one2 rfl rfl) rfl fun h22 n22 => ⟨_, rda n22.rd rfl, ?_⟩⟩
    have T4 := T3.no n22.fr (ag_upd _ _ 0)
    have c0 : upd col2 h20.size 0 h20.size = 0 := upd_ge (Nat.le_refl _)
    generalize upd col2 h20.size 0 = col5 at T4 c0
    have bc2 : cb + k * (6 * j + 6) + 6 * j + 6 < 1000000000000 := by omega
    generalize cb + k * (6 * j + 6) = cb2 at *
    have z22 := n22.size
    cases hdk : Option.isNone (dd' k) with
    | true => exact ct rfl (fin h22 col5 (T4.le (Nat.le_refl _) (by omega)))
    | false =>
      have nn : dd' k ≠ none := fun e => by rw [e] at hdk; exact absurd hdk (by decide)
      refine cf rfl ⟨prV (dd' k) (rr' k), rfl, cellsAll n22.rd, asks2 hk' T4 nn fun h23 f23 => ⟨_, rfl, cnot (ct rfl ?_)⟩⟩
      have z23 := f23.size
      have r23 := (f23.rd (b := h20.size) (by omega) fun y => y).trans n22.rd
      refine ⟨prV (dd' k) (rr' k), rfl, cellsAll r23, looks2 hk' (T4.no f23 (Ag.refl _ _)) nn (by omega) (by omega) fun h24 col24 f24 g24 T24 => ⟨_, rfl, cnot (ct rfl ?_)⟩⟩
      have z24 := f24.size
      have r24 := (f24.rd (b := h20.size) (by omega) fun y => by have y : 30 ≤ col5 h20.size := y; omega).trans r23
      have c24 : col24 h20.size = 0 := (g24 _ (by omega)).trans c0
      refine ⟨prV (dd' k) (rr' k), rfl, cellsAll r24, looks2 hk' T24 nn (by omega) (by omega) fun h25 col25 f25 g25 T25 => ⟨_, rfl, cnot (ct rfl ?_)⟩⟩
      have z25 := f25.size
      have r25 := (f25.rd (b := h20.size) (by omega) fun y => by have y : 30 ≤ col24 h20.size := y; omega).trans r24
      refine ⟨prV (dd' k) (rr' k), rfl, cellsAll r25, looks2 hk' T25 nn (by omega) (by omega) fun h26 col26 f26 g26 T26 => ⟨_, rfl, cnot (ct rfl (fin h26 col26 (T26.le (Nat.le_refl _) (by omega))))⟩⟩
end Go.Proofs.Ytnbfaokpaiiojaa.Ap
/-
  bolelaw03.AdiskPlays: THE LAW, whatever comes in.
-/
namespace Go.Proofs.Ytnbfaokpaiiojaa.Ap
open Go Go.Proofs Go.Proofs.Ytnbfaokpaiiojaa.Wx Go.Proofs.Ytnbfaokpaiiojaa.Hp Go.Proofs.Ytnbfaokpaiiojaa.W Go.Proofs.Ytnbfaokpaiiojaa.Ad Go.Proofs.Ytnbfaokpaiiojaa.L3 Go.Proofs.Ytnbfaokpaiiojaa.Rf

theorem chunks_zero (n : Nat) : chunks (List.replicate (n * 512) (0 : UInt8)) = List.replicate n zeroBlk := by
  refine List.ext_getElem (by rw [chunks_length, List.length_replicate, List.length_replicate]; omega) fun i g1 g2 => ?_
  rw [List.length_replicate] at g2
  rw [chunks_get _ g1, List.getElem_replicate, List.drop_replicate, List.take_replicate]
  unfold zeroBlk
  congr 1
  have : (i + 1) * 512 ≤ n * 512 := Nat.mul_le_mul_right _ g2
  omega
section
variable {h1 : Heap} {ia sa : Option Addr} {il ic sc : Nat} {ibs : List UInt8} {xs : List OpI} {K : Value → Heap → Prop}
theorem k1_spec (n : Int) (B : StrAt h1 ia il ibs) (hlc : il ≤ ic) (hil : il < 140737488355328) (S : SlCells h1 sa (xs.flatMap OpI.cells)) (hx : ∀ i (hi : i < xs.length), xs[i].Ok h1) (hL : xs.length ≤ 200000) (hK : ∀ h', Fr No h1 h' → K (.bool true) h') :
    bolelaw03_AdiskPlays.k1 ia il ic sa xs.length h1 n K := by
  unfold bolelaw03_AdiskPlays.k1
  refine Ad.New_spec (fun _ => 0) 1 (fun bad => ⟨_, _, rfl, Rf.New_spec (fun _ => 0) 7 (fun _ => ⟨_, _, rfl, cf rfl (cnot (ct rfl ?_))⟩) fun y1 y2 => absurd bad (by omega)⟩) fun y1 y2 q h2 col2 f2 g2 D => ⟨_, _, rfl, Rf.New_spec col2 7 (fun bad => absurd bad (by omega)) fun _ _ q2 h3 col3 f3 g3 R => ⟨_, _, rfl, cf rfl (cnot (ct rfl ?_))⟩⟩
  · exact k2_spec (Fr.refl _ _) (Ag.refl _ _) (.inl rfl) B hlc hil S hx hL hK
  · refine k2_spec (f2.no f3) (g2.trans g3 f2.size) (.inr ⟨_, _, D.keep f3 g3 fun _ _ _ y => y, R, ?_, ?_, Nat.zero_le _, fun t ht => absurd ht (by show ¬ t ∈ []; simp)⟩) B hlc hil S hx hL hK
    · rw [← chunks_zero]
      exact sm_fresh (by rw [List.length_replicate]; omega) (by rw [List.length_replicate]; omega)
    · show 0 < (List.replicate (n.toNat * 512) (0 : UInt8)).length / 512
      rw [List.length_replicate]; omega
theorem AdiskPlays_spec (n : Int) (B : StrAt h1 ia il ibs) (hlc : il ≤ ic) (hil : il < 140737488355328) (S : SlCells h1 sa (xs.flatMap OpI.cells)) (hx : ∀ i (hi : i < xs.length), xs[i].Ok h1) (hL : xs.length ≤ 200000) (hK : ∀ h', Fr No h1 h' → K (.bool true) h') :
    C.bolelaw03_AdiskPlays n ia il ic sa xs.length sc h1 K := by
  refine bolelaw03_AdiskPlays.ok ?_
  unfold bolelaw03_AdiskPlays
  exact cd (fun _ => k1_spec _ B hlc hil S hx hL hK) fun _ => k1_spec _ B hlc hil S hx hL hK
end
end Go.Proofs.Ytnbfaokpaiiojaa.Ap
