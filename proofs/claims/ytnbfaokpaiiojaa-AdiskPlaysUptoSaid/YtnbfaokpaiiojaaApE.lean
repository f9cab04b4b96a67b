/-
  bolelaw03.AdiskPlays: numbers go into the book, the whole.
-/
import Derived.Test.YtnbfaokpaiiojaaApD
namespace Go.Proofs.Ytnbfaokpaiiojaa.Ap
open Go Go.Proofs Go.Proofs.Ytnbfaokpaiiojaa.Wx Go.Proofs.Ytnbfaokpaiiojaa.Hp Go.Proofs.Ytnbfaokpaiiojaa.W Go.Proofs.Ytnbfaokpaiiojaa.Ad Go.Proofs.Ytnbfaokpaiiojaa.L3 Go.Proofs.Ytnbfaokpaiiojaa.Rf

section
variable {h h' : Heap} {col col' : Nat → Nat} {kb c : Nat} {xs : List Hb} {is : List Li} {ats : List La}
/-- blocks of other colours change -/
theorem Bk.onlyS (B : Bk h col kb xs is ats c) {Kc : Nat → Prop} (f : Fr (fun b => Kc (col b)) h h') (g : Ag h.size col col') (hk : ∀ i, (i < xs.length → ¬ Kc (40 + 5 * i)) ∧ (i < is.length → ¬ Kc (41 + 5 * i) ∧ ¬ Kc (42 + 5 * i)) ∧ (i < ats.length → ¬ Kc (43 + 5 * i) ∧ ¬ Kc (44 + 5 * i))) (h40 : ∀ k, 30 ≤ k → k < 40 → ¬ Kc k) : Bk h' col' kb xs is ats c := by
  obtain ⟨ba, bc, ia, ic, ta, tc, aa, ac, wa, wc, r, s1, s2, s3, s4, s5⟩ := B.rows
  have q : ∀ k', ¬ Kc k' → ∀ b, col b = k' → ¬ (fun b => Kc (col b)) b := fun k' hk' b hb y => hk' (hb ▸ y)
  have hb := B.so.lt
  have nb := q 30 (h40 30 (by decide) (by decide)) kb B.sc
  exact ⟨(g _ hb).trans B.sc, f.own hb nb B.so, ⟨ba, bc, ia, ic, ta, tc, aa, ac, wa, wc, (f.rd hb nb).trans r, s1.keep f g (q 31 (h40 _ (by decide) (by decide))), s2.keep f g (q 32 (h40 _ (by decide) (by decide))), s3.keep f g (q 33 (h40 _ (by decide) (by decide))), s4.keep f g (q 34 (h40 _ (by decide) (by decide))), s5.keep f g (q 35 (h40 _ (by decide) (by decide)))⟩,
    fun i hi => (B.bx i hi).keep f g (q _ ((hk i).1 hi)), fun i hi => ⟨(B.bi i hi).s.keep f g (q _ ((hk i).2.1 hi).1), (B.bi i hi).t.keep f g (q _ ((hk i).2.1 hi).2), (B.bi i hi).max⟩, fun i hi => ⟨(B.ba i hi).s.keep f g (q _ ((hk i).2.2 hi).1), (B.ba i hi).t.keep f g (q _ ((hk i).2.2 hi).2), (B.ba i hi).e, (B.ba i hi).same, (B.ba i hi).max⟩, B.nx, B.ni, B.na⟩
theorem intsV_one (l : List Int) : ∀ v ∈ intsV l, v.oneCell' = true := fun v hv => by obtain ⟨x, _, rfl⟩ := List.mem_map.mp hv; rfl
/-- one number of a list is written -/
theorem put_int {h : Heap} {a : Option Addr} {l cc k j : Nat} {col : Nat → Nat} {ys : List Int} {v : Int} {X : Heap → Prop} (s : Sl h 1 a l cc (intsV ys) (On col k)) (hj : j < l)
    (hX : ∀ h', Fr (On col k) h h' → Sl h' 1 a l cc (intsV (ys.set j v)) (On col k) → X h') : onSome a fun p => Put (Addr.add p j) (.int .i64 v) h X := by
  obtain ⟨p, rfl, cp⟩ := s.get (by omega)
  have e := s.mk
  obtain ⟨b, o, sp⟩ := p
  have e : sp = none := by simpa using e
  subst e
  obtain ⟨w1, w2⟩ := s.wr
  have hb : On col k b := s.2.2.1
  refine os (Put.add w1 (by omega) fun h6 d6 => hX h6 ((Fr.refl _ _).did d6 fun _ => hb) ?_)
  have s6 := s.putAt (j := j) (new := [.int .i64 v]) (by rw [List.length_singleton]; omega) d6
  rw [show put (intsV ys) j [Value.int .i64 v] = (intsV ys).set j (.int .i64 v) from rfl] at s6
  unfold intsV at s6 ⊢
  rw [List.map_set]; exact s6
/-- what changes when numbers go into the book -/
def KcI (n : Nat) : Nat → Prop := fun k => k = 30 ∨ k = 32 ∨ k = 33 ∨ k = 41 + 5 * n ∨ k = 42 + 5 * n
theorem ints_spec {a : Option Addr} {l cc : Nat} {vs : List Int} {K : Value → Heap → Prop} (B : Bk h col kb xs is ats c) (hc : c < 1000000000000) (hl : l ≤ 1000000000) (s : Sl h 1 a l cc (intsV vs) (On col (41 + 5 * is.length)))
    (hK : ∀ h' col' x, Fr (fun b => KcI is.length (col b)) h h' → Ag h.size col col' → Bk h' col' kb xs (is ++ [x]) ats (c + 1) → K (.tuple #[]) h') : C.bolelaw03_Book_ints (some ⟨kb, 0, none⟩) a l cc h K := by
  obtain ⟨ba, bc, ia, ic, ta, tc, aa, ac, wa, wc, r0, s1, s2, s3, s4, s5⟩ := B.rows
  have ni := B.ni
  have hvl : (intsV vs).length = l * 1 := s.1
  refine bolelaw03_Book_ints.ok (os ⟨_, _, _, rda r0 rfl, intsV vs, hvl, s.cells, intsV_one vs, append_nil (elem := ti3) hvl rfl (by show l * 8 ≤ _; omega) (by omega) fun a2 c2 h2 f2 t2 => ?_⟩)
  have z2 := f2.size
  have g2 : Ag h.size col (upd col h.size (42 + 5 * is.length)) := ag_upd _ _ _
  have B2 := B.no f2 g2
  have sa2 := s.keep f2 g2 fun _ _ y => y
  have st2 : Sl h2 1 a2 l c2 (intsV vs) (On (upd col h.size (42 + 5 * is.length)) (42 + 5 * is.length)) := t2.mono fun b hb => upd_ge hb
  have F2 : Fr (fun b => KcI is.length (col b)) h h2 := f2.mono fun _ _ y => y.elim
  have dn : ∀ b, b < h.size → (upd col h.size (42 + 5 * is.length) b = 30 ∨ upd col h.size (42 + 5 * is.length) b = 32 ∨ upd col h.size (42 + 5 * is.length) b = 33) → KcI is.length (col b) := fun b hb y => by rw [g2 b hb] at y; unfold KcI; omega
  have fin : ∀ (ys : List Int) (h3 : Heap), Fr (fun b => (fun k => k = 41 + 5 * is.length ∨ k = 42 + 5 * is.length) (upd col h.size (42 + 5 * is.length) b)) h2 h3 → Sl h3 1 a l cc (intsV ys) (On (upd col h.size (42 + 5 * is.length)) (41 + 5 * is.length)) → Sl h3 1 a2 l c2 (intsV ys) (On (upd col h.size (42 + 5 * is.length)) (42 + 5 * is.length)) →
      bolelaw03_Book_ints.k1 (some ⟨kb, 0, none⟩) a l cc a2 l c2 h3 K := fun ys h3 f3 u1 u2 => by
    have B3 := B2.onlyS (Kc := fun k => k = 41 + 5 * is.length ∨ k = 42 + 5 * is.length) f3 (Ag.refl _ _) (fun i => ⟨fun hi y => by rcases y with y | y <;> omega, fun hi => ⟨fun y => by rcases y with y | y <;> omega, fun y => by rcases y with y | y <;> omega⟩, fun hi => ⟨fun y => by rcases y with y | y <;> omega, fun y => by rcases y with y | y <;> omega⟩⟩) fun k k1 k2 y => by rcases y with y | y <;> omega
    exact ints_k1 (x := ⟨a, l, cc, a2, c2, ys⟩) B3 hc ⟨u1, u2, by show l ≤ _; omega⟩ fun h' col' f g B' => hK h' col' _ ((F2.trans f3 fun b hb y => by have y : upd col h.size (42 + 5 * is.length) b = 41 + 5 * is.length ∨ upd col h.size (42 + 5 * is.length) b = 42 + 5 * is.length := y; rw [g2 b hb] at y; unfold KcI; omega).trans f dn) (g2.trans g (Nat.le_trans z2 f3.size)) B'
  refine ce (fun _ => ?_) fun _ => fin vs h2 (Fr.refl _ _) sa2 st2
  refine ⟨fun i hh => ∃ (j : Nat) (ys : List Int), i = j ∧ j ≤ l ∧ Fr (fun b => (fun k => k = 41 + 5 * is.length ∨ k = 42 + 5 * is.length) (upd col h.size (42 + 5 * is.length) b)) h2 hh ∧ Sl hh 1 a l cc (intsV ys) (On (upd col h.size (42 + 5 * is.length)) (41 + 5 * is.length)) ∧ Sl hh 1 a2 l c2 (intsV ys) (On (upd col h.size (42 + 5 * is.length)) (42 + 5 * is.length)), fun i _ => ((l : Int) - i).toNat,
    ⟨0, vs, rfl, Nat.zero_le _, Fr.refl _ _, sa2, st2⟩, ?_⟩
  rintro i h3 ⟨j, ys, ei, hj, f3, u1, u2⟩
  refine cd (fun hlt => ?_) fun hlt => fin ys h3 f3 u1 u2
  have hj' : j < l := by omega
  have ein : i.toNat = j := by omega
  rw [ein, wrap_i64 (n := i + 1) (by omega) (by omega)]
  refine ⟨⟨by omega, hlt⟩, put_int u1 hj' fun h4 f4 u1' => ⟨⟨by omega, hlt⟩, put_int (u2.fr f4 fun b _ y z => by have y : upd col h.size (42 + 5 * is.length) b = 42 + 5 * is.length := y; have z : upd col h.size (42 + 5 * is.length) b = 41 + 5 * is.length := z; omega) hj' fun h5 f5 u2' => ?_⟩⟩
  refine ⟨⟨j + 1, _, by omega, hj', (f3.trans f4 fun b _ y => .inl y).trans f5 fun b _ y => .inr y, u1'.fr f5 fun b _ y z => by have y : upd col h.size (42 + 5 * is.length) b = 41 + 5 * is.length := y; have z : upd col h.size (42 + 5 * is.length) b = 42 + 5 * is.length := z; omega, u2'⟩, by show ((l : Int) - (i + 1)).toNat < ((l : Int) - i).toNat; omega⟩
end
end Go.Proofs.Ytnbfaokpaiiojaa.Ap
