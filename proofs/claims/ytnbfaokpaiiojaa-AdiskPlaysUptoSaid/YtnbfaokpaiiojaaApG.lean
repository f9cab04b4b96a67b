/-
  bolelaw03.AdiskPlays: acts go into the book.
-/
import Derived.Test.YtnbfaokpaiiojaaApF
namespace Go.Proofs.Ytnbfaokpaiiojaa.Ap
open Go Go.Proofs Go.Proofs.Ytnbfaokpaiiojaa.Wx Go.Proofs.Ytnbfaokpaiiojaa.Hp Go.Proofs.Ytnbfaokpaiiojaa.W Go.Proofs.Ytnbfaokpaiiojaa.Ad Go.Proofs.Ytnbfaokpaiiojaa.L3 Go.Proofs.Ytnbfaokpaiiojaa.Rf

section
variable {h : Heap} {col : Nat → Nat} {kb c : Nat} {xs : List Hb} {is : List Li} {ats : List La}
theorem acts_k1 {x : La} {K : Value → Heap → Prop} (B : Bk h col kb xs is ats c) (hc : c < 1000000000000) (o : x.Ok h col (43 + 5 * ats.length) (44 + 5 * ats.length))
    (hK : ∀ h' col', Fr (fun b => col b = 30 ∨ col b = 34 ∨ col b = 35) h h' → Ag h.size col col' → Bk h' col' kb xs is (ats ++ [x]) (c + 1) → K (.tuple #[]) h') : bolelaw03_Book_acts.k1 (some ⟨kb, 0, none⟩) x.a x.l x.c x.wa x.l x.wc h K := by
  obtain ⟨ba, bc, ia, ic, ta, tc, aa, ac, wa, wc, r0, s1, s2, s3, s4, s5⟩ := B.rows
  have na := B.na
  unfold bolelaw03_Book_acts.k1
  refine os (row_push (q := 3) (sa := x.a) (sl := x.l) (sc := x.c) B.sc B.so r0 rfl (by decide) rfl s4 (by omega) rfl rfl rfl fun h9 b9 e9 col9 F9 G9 r9 o9 t9 k9 => ?_)
  have sc9 : col9 kb = 30 := (G9 kb B.so.lt).trans B.sc
  refine os (row_push (q := 4) (sa := x.wa) (sl := x.l) (sc := x.wc) sc9 o9 r9 rfl (by decide) rfl (k9 s5 (by decide) (by decide)) (by omega) rfl rfl rfl fun h12 b12 e12 col12 F12 G12 r12 o12 t12 k12 => ?_)
  have kp : ∀ {ec : Nat} {a : Option Addr} {l c : Nat} {vs : List Value} {k : Nat}, Sl h ec a l c vs (On col k) → k ≠ 34 → k ≠ 35 → k ≠ 30 → Sl h12 ec a l c vs (On col12 k) := fun s y1 y2 y3 => k12 (k9 s y1 y3) y2 y3
  have z9 := F9.size
  refine hK h12 col12 ((F9.mono fun b _ y => y.elim .inl fun y => .inr (.inl y)).trans F12 fun b hb y => by have y : col9 b = 30 ∨ col9 b = 35 := y; rw [G9 b hb] at y; exact y.elim .inl fun y => .inr (.inr y)) (G9.trans G12 z9) ⟨(G12 kb o9.lt).trans sc9, o12, ⟨ba, bc, ia, ic, ta, tc, b9, e9, b12, e12, ?_, kp s1 (by decide) (by decide) (by decide), kp s2 (by decide) (by decide) (by decide), kp s3 (by decide) (by decide) (by decide), ?_, ?_⟩, fun i hi => ?_, fun i hi => ?_, fun i hi => ?_, Nat.le_succ_of_le B.nx, Nat.le_succ_of_le B.ni, by rw [List.length_append]; exact Nat.succ_le_succ na⟩
  · rw [r12, List.length_append]; rfl
  · rw [List.length_append, List.flatMap_append, List.flatMap_singleton]
    exact k12 t9 (by decide) (by decide)
  · rw [List.length_append, List.flatMap_append, List.flatMap_singleton]
    exact t12
  · have := B.bx i hi
    exact ⟨kp this.sl (by omega) (by omega) (by omega), this.yes, this.no, this.max⟩
  · have := B.bi i hi
    exact ⟨kp this.s (by omega) (by omega) (by omega), kp this.t (by omega) (by omega) (by omega), this.max⟩
  · by_cases e : i = ats.length
    · subst e
      rw [List.getElem_append_right (Nat.le_refl _)]
      simp only [Nat.sub_self, List.getElem_singleton]
      exact ⟨kp o.s (by omega) (by omega) (by omega), kp o.t (by omega) (by omega) (by omega), o.e, o.same, o.max⟩
    · have hi' : i < ats.length := by rw [List.length_append] at hi; have hi : i < ats.length + 1 := hi; omega
      rw [List.getElem_append_left hi']
      have := B.ba i hi'
      exact ⟨kp this.s (by omega) (by omega) (by omega), kp this.t (by omega) (by omega) (by omega), this.e, this.same, this.max⟩
end
/-- one act of a row is written -/
theorem put_ent {h : Heap} {a : Option Addr} {l cc k j : Nat} {col : Nat → Nat} {es : List Ent} {e : Ent} {X : Heap → Prop} (s : Sl h 3 a l cc (es.flatMap Ent.cells) (On col k)) (hl : es.length = l) (hj : j < l)
    (hX : ∀ h', Fr (On col k) h h' → Sl h' 3 a l cc ((es.set j e).flatMap Ent.cells) (On col k) → X h') : onSome a fun p => PutRow (Addr.add p (j * 3)) e.cells 3 h X := by
  obtain ⟨p, rfl, cp⟩ := s.get (by omega)
  have e0 := s.mk
  obtain ⟨b, o, sp⟩ := p
  have e0 : sp = none := by simpa using e0
  subst e0
  obtain ⟨w1, w2⟩ := s.wr
  have hb : On col k b := s.2.2.1
  refine os ?_
  rw [add_mk]
  refine PutRow.intro w1 rfl (ent_one e) (by omega) fun h6 d6 => hX h6 ((Fr.refl _ _).did d6 fun _ => hb) ?_
  have s6 := s.putAt (j := j * 3) (new := e.cells) (by show j * 3 + 3 ≤ l * 3; omega) d6
  rw [put_part Ent.cells 3 es (fun _ _ => rfl) j (by omega) e rfl] at s6
  exact s6
theorem ents_one (es : List Ent) : ∀ v ∈ es.flatMap Ent.cells, v.oneCell' = true := fun v hv => by
  obtain ⟨e, _, he⟩ := List.mem_flatMap.mp hv
  exact ent_one e v he
section
variable {h : Heap} {col : Nat → Nat} {kb c : Nat} {xs : List Hb} {is : List Li} {ats : List La}
/-- what changes when acts go into the book -/
def KcA (n m l : Nat) : Nat → Prop := fun k => k = 30 ∨ k = 31 ∨ k = 34 ∨ k = 35 ∨ k = 43 + 5 * m ∨ k = 44 + 5 * m ∨ ∃ i, i < l ∧ k = 40 + 5 * (n + i)
theorem acts_spec {a : Option Addr} {l cc : Nat} {es : List Ent} {ts : List Tt} {K : Value → Heap → Prop} (B : Bk h col kb xs is ats c) (hc : c + l < 1000000000000) (hl : es.length = l) (htl : ts.length = l) (s : Sl h 3 a l cc (es.flatMap Ent.cells) (On col (43 + 5 * ats.length)))
    (it : ∀ i (h1 : i < es.length) (h2 : i < ts.length), es[i].l ≤ 140737488355000 ∧ Sl h 1 es[i].a es[i].l es[i].c (ts[i].2.2.map bv) (On col (40 + 5 * (xs.length + i))))
    (hK : ∀ h' col' xs' x, Fr (fun b => KcA xs.length ats.length l (col b)) h h' → Ag h.size col col' → xs'.length = l → Bk h' col' kb (xs ++ xs') is (ats ++ [x]) (c + l + 1) → K (.tuple #[]) h') : C.bolelaw03_Book_acts (some ⟨kb, 0, none⟩) a l cc h K := by
  obtain ⟨ba, bc, ia, ic, ta, tc, aa, ac, wa, wc, r0, s1, s2, s3, s4, s5⟩ := B.rows
  have na := B.na
  refine bolelaw03_Book_acts.ok (os ⟨_, _, _, rda r0 rfl, ?_⟩)
  refine ⟨fun i hh => ∃ (j : Nat) (xs' : List Hb) (col' : Nat → Nat), i = j ∧ j ≤ l ∧ Fr (fun b => KcA xs.length ats.length l (col b)) h hh ∧ Ag h.size col col' ∧ Bk hh col' kb (xs ++ xs') is ats (c + j) ∧ xs'.length = j ∧ Sl hh 3 a l cc (es.flatMap Ent.cells) (On col' (43 + 5 * ats.length)) ∧ ∀ i (h1 : i < es.length) (h2 : i < ts.length), j ≤ i → Sl hh 1 es[i].a es[i].l es[i].c (ts[i].2.2.map bv) (On col' (40 + 5 * (xs.length + i))), fun i _ => ((l : Int) - i).toNat,
    ⟨0, [], col, rfl, Nat.zero_le _, Fr.refl _ _, Ag.refl _ _, by rw [List.append_nil]; exact B, rfl, s, fun i h1 h2 _ => (it i h1 h2).2⟩, ?_⟩
  rintro i h2 ⟨j, xs', col2, ei, hj, f2, g2, B2, xl, sa2, it2⟩
  have z2 := f2.size
  refine cd (fun hlt => ?_) fun hlt => ?_
  · have hj' : j < l := by omega
    have ein : i.toNat = j := by omega
    obtain ⟨p, ep, cp⟩ := row_part sa2.cells (i := j) (by omega)
    rw [ein, wrap_i64 (n := i + 1) (by omega) (by omega), ep]
    have sj := it2 j (by omega) (by omega) (Nat.le_refl _)
    refine ⟨⟨by omega, hlt⟩, os ⟨_, _, _, Cells.cell cp (i := 2) rfl, ?_⟩⟩
    refine bytes_spec B2 (by omega) (it j (by omega) (by omega)).1 (by rw [List.length_append, xl]; exact sj) fun h3 col3 x f3 g3 B3 => ⟨rfl, ?_⟩
    rw [List.length_append, xl] at f3
    have kk : ∀ k, k ≠ 30 → k ≠ 31 → k ≠ 40 + 5 * (xs.length + j) → ∀ b, col2 b = k → ¬ (fun b => col2 b = 30 ∨ col2 b = 31 ∨ col2 b = 40 + 5 * (xs.length + j)) b := fun k k1 k2 k3 b hb y => by rcases y with y | y | y <;> omega
    refine ⟨⟨j + 1, xs' ++ [x], col3, by omega, hj', f2.trans f3 fun b hb y => ?_, g2.trans g3 z2, ?_, by rw [List.length_append, xl]; rfl, ?_, fun i' h1 h2_ hi => ?_⟩, by show ((l : Int) - (i + 1)).toNat < ((l : Int) - i).toNat; omega⟩
    · have e := g2 b hb
      rw [e] at y
      show KcA xs.length ats.length l (col b)
      rcases y with y | y | y
      · exact .inl y
      · exact .inr (.inl y)
      · exact .inr (.inr (.inr (.inr (.inr (.inr ⟨j, hj', y⟩)))))
    · rw [← List.append_assoc]; exact B3
    · have := sa2.keep f3 g3 (kk _ (by omega) (by omega) (by omega))
      rw [← ep]; exact this
    · exact (it2 i' h1 h2_ (by omega)).keep f3 g3 (kk _ (by omega) (by omega) (by omega))
  have ej : j = l := by omega
  subst ej
  have hel : (es.flatMap Ent.cells).length = j * 3 := sa2.1
  refine ⟨_, hel, sa2.cells, ents_one es, append_nil (elem := ti70) hel rfl (by show j * 40 ≤ _; omega) (by omega) fun a3 c3 h3 f3 t3 => ?_⟩
  have z3 := f3.size
  have g3 : Ag h2.size col2 (upd col2 h2.size (44 + 5 * ats.length)) := ag_upd _ _ _
  have B3 := B2.no f3 g3
  have sa3 := sa2.keep f3 g3 fun _ _ y => y
  have st3 : Sl h3 3 a3 j c3 (es.flatMap Ent.cells) (On (upd col2 h2.size (44 + 5 * ats.length)) (44 + 5 * ats.length)) := t3.mono fun b hb => upd_ge hb
  have F3 : Fr (fun b => KcA xs.length ats.length j (col b)) h h3 := f2.no f3
  have G3 : Ag h.size col (upd col2 h2.size (44 + 5 * ats.length)) := g2.trans g3 z2
  have dn : ∀ b, b < h.size → (upd col2 h2.size (44 + 5 * ats.length) b = 30 ∨ upd col2 h2.size (44 + 5 * ats.length) b = 34 ∨ upd col2 h2.size (44 + 5 * ats.length) b = 35) → KcA xs.length ats.length j (col b) := fun b hb y => by rw [G3 b hb] at y; exact y.elim .inl fun y => y.elim (fun y => .inr (.inr (.inl y))) fun y => .inr (.inr (.inr (.inl y)))
  have fin : ∀ (us ws : List Ent) (h4 : Heap), us.length = j → ws.length = j → (∀ q (h1 : q < us.length) (h2 : q < ws.length), us[q].kind = ws[q].kind ∧ us[q].at_ = ws[q].at_) → Fr (fun b => (fun k => k = 43 + 5 * ats.length ∨ k = 44 + 5 * ats.length) (upd col2 h2.size (44 + 5 * ats.length) b)) h3 h4 → Sl h4 3 a j cc (us.flatMap Ent.cells) (On (upd col2 h2.size (44 + 5 * ats.length)) (43 + 5 * ats.length)) → Sl h4 3 a3 j c3 (ws.flatMap Ent.cells) (On (upd col2 h2.size (44 + 5 * ats.length)) (44 + 5 * ats.length)) →
      bolelaw03_Book_acts.k1 (some ⟨kb, 0, none⟩) a j cc a3 j c3 h4 K := fun us ws h4 ul wl sm f4 u1 u2 => by
    have B4 := B3.onlyS (Kc := fun k => k = 43 + 5 * ats.length ∨ k = 44 + 5 * ats.length) f4 (Ag.refl _ _) (fun i => ⟨fun hi y => by rcases y with y | y <;> omega, fun hi => ⟨fun y => by rcases y with y | y <;> omega, fun y => by rcases y with y | y <;> omega⟩, fun hi => ⟨fun y => by rcases y with y | y <;> omega, fun y => by rcases y with y | y <;> omega⟩⟩) fun k k1 k2 y => by rcases y with y | y <;> omega
    exact acts_k1 (x := ⟨a, j, cc, a3, c3, us, ws⟩) B4 (by omega) ⟨u1, u2, ⟨ul, wl⟩, sm, by show j ≤ _; omega⟩ fun h' col' f g B' => hK h' col' xs' _ ((F3.trans f4 fun b hb y => by have y : upd col2 h2.size (44 + 5 * ats.length) b = 43 + 5 * ats.length ∨ upd col2 h2.size (44 + 5 * ats.length) b = 44 + 5 * ats.length := y; rw [G3 b hb] at y; exact y.elim (fun y => .inr (.inr (.inr (.inr (.inl y))))) fun y => .inr (.inr (.inr (.inr (.inr (.inl y)))))).trans f dn) (G3.trans g (Nat.le_trans z2 (Nat.le_trans z3 f4.size))) xl B'
  refine ce (fun _ => ?_) fun _ => fin es es h3 hl hl (fun _ _ _ => ⟨rfl, rfl⟩) (Fr.refl _ _) sa3 st3
  obtain ⟨v, ev⟩ : ∃ v : Int, IntKind.wrap .i64 ((IntKind.wrap .i64 (0 - (ats.length : Int))) - 1) = v := ⟨_, rfl⟩
  rw [ev]
  refine ⟨fun i hh => ∃ (q : Nat) (us ws : List Ent), i = q ∧ q ≤ j ∧ us.length = j ∧ ws.length = j ∧ (∀ q (h1 : q < us.length) (h2 : q < ws.length), us[q].kind = ws[q].kind ∧ us[q].at_ = ws[q].at_) ∧ Fr (fun b => (fun k => k = 43 + 5 * ats.length ∨ k = 44 + 5 * ats.length) (upd col2 h2.size (44 + 5 * ats.length) b)) h3 hh ∧ Sl hh 3 a j cc (us.flatMap Ent.cells) (On (upd col2 h2.size (44 + 5 * ats.length)) (43 + 5 * ats.length)) ∧ Sl hh 3 a3 j c3 (ws.flatMap Ent.cells) (On (upd col2 h2.size (44 + 5 * ats.length)) (44 + 5 * ats.length)), fun i _ => ((j : Int) - i).toNat,
    ⟨0, es, es, rfl, Nat.zero_le _, hl, hl, fun _ _ _ => ⟨rfl, rfl⟩, Fr.refl _ _, sa3, st3⟩, ?_⟩
  rintro i4 h4 ⟨q, us, ws, ei4, hq, ul, wl, sm, f4, u1, u2⟩
  refine cd (fun hlt4 => ?_) fun hlt4 => fin us ws h4 ul wl sm f4 u1 u2
  have hq' : q < j := by omega
  have ein : i4.toNat = q := by omega
  rw [ein, wrap_i64 (n := i4 + 1) (by omega) (by omega)]
  have e0 : ([.int .i64 v, .int .i64 0, .slice none 0 0] : List Value) = Ent.cells ⟨v, 0, none, 0, 0⟩ := rfl
  rw [e0]
  refine ⟨⟨by omega, hlt4⟩, put_ent u1 ul hq' fun h5 f5 u1' => ⟨⟨by omega, hlt4⟩, put_ent (u2.fr f5 fun b _ y z => by have y : upd col2 h2.size (44 + 5 * ats.length) b = 44 + 5 * ats.length := y; have z : upd col2 h2.size (44 + 5 * ats.length) b = 43 + 5 * ats.length := z; omega) wl hq' fun h6 f6 u2' => ?_⟩⟩
  refine ⟨⟨q + 1, _, _, by omega, hq', by rw [List.length_set]; exact ul, by rw [List.length_set]; exact wl, fun p h1 h2_ => ?_, (f4.trans f5 fun b _ y => .inl y).trans f6 fun b _ y => .inr y, u1'.fr f6 fun b _ y z => by have y : upd col2 h2.size (44 + 5 * ats.length) b = 43 + 5 * ats.length := y; have z : upd col2 h2.size (44 + 5 * ats.length) b = 44 + 5 * ats.length := z; omega, u2'⟩, by show ((j : Int) - (i4 + 1)).toNat < ((j : Int) - i4).toNat; omega⟩
  rw [List.getElem_set, List.getElem_set]
  by_cases e : q = p
  · rw [if_pos e, if_pos e]; exact ⟨rfl, rfl⟩
  · rw [if_neg e, if_neg e]
    exact sm p (by rw [List.length_set] at h1; exact h1) (by rw [List.length_set] at h2_; exact h2_)
end
end Go.Proofs.Ytnbfaokpaiiojaa.Ap
