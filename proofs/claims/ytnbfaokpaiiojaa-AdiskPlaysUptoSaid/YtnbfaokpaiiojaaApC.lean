/-
  bolelaw03.AdiskPlays: the book of all that was answered: what stands in it; bytes go into it.
-/
import Derived.Test.YtnbfaokpaiiojaaApB
namespace Go.Proofs.Ytnbfaokpaiiojaa.Ap
open Go Go.Proofs Go.Proofs.Ytnbfaokpaiiojaa.Wx Go.Proofs.Ytnbfaokpaiiojaa.Hp Go.Proofs.Ytnbfaokpaiiojaa.W Go.Proofs.Ytnbfaokpaiiojaa.Ad Go.Proofs.Ytnbfaokpaiiojaa.L3 Go.Proofs.Ytnbfaokpaiiojaa.Rf

def intsV (l : List Int) : List Value := l.map (.int .i64)
/-- a list of numbers in the book, and what it must be -/
structure Li where
  a : Option Addr
  l : Nat
  c : Nat
  ta : Option Addr
  tc : Nat
  vs : List Int
def Li.v (x : Li) : List Value := [.slice x.a x.l x.c]
def Li.t (x : Li) : List Value := [.slice x.ta x.l x.tc]
structure Li.Ok (h : Heap) (col : Nat → Nat) (k k2 : Nat) (x : Li) : Prop where
  s : Sl h 1 x.a x.l x.c (intsV x.vs) (On col k)
  t : Sl h 1 x.ta x.l x.tc (intsV x.vs) (On col k2)
  max : x.l ≤ 1000000000000
/-- a row of acts in the book, and what it must be -/
structure La where
  a : Option Addr
  l : Nat
  c : Nat
  wa : Option Addr
  wc : Nat
  es : List Ent
  ws : List Ent
def La.v (x : La) : List Value := [.slice x.a x.l x.c]
def La.t (x : La) : List Value := [.slice x.wa x.l x.wc]
structure La.Ok (h : Heap) (col : Nat → Nat) (k k2 : Nat) (x : La) : Prop where
  s : Sl h 3 x.a x.l x.c (x.es.flatMap Ent.cells) (On col k)
  t : Sl h 3 x.wa x.l x.wc (x.ws.flatMap Ent.cells) (On col k2)
  e : x.es.length = x.l ∧ x.ws.length = x.l
  same : ∀ j (h1 : j < x.es.length) (h2 : j < x.ws.length), x.es[j].kind = x.ws[j].kind ∧ x.es[j].at_ = x.ws[j].at_
  max : x.l ≤ 1000000000000
def bkV (ba : Option Addr) (bl bc : Nat) (ia : Option Addr) (il ic : Nat) (ta : Option Addr) (tc : Nat) (aa : Option Addr) (al ac : Nat) (wa : Option Addr) (wc : Nat) : List Value := [.slice ba bl bc, .slice ia il ic, .slice ta il tc, .slice aa al ac, .slice wa al wc]
/-- the book -/
structure Bk (h : Heap) (col : Nat → Nat) (kb : Nat) (xs : List Hb) (is : List Li) (ats : List La) (c : Nat) : Prop where
  sc : col kb = 30
  so : Own h kb
  rows : ∃ ba bc ia ic ta tc aa ac wa wc, rd h kb = bkV ba xs.length bc ia is.length ic ta tc aa ats.length ac wa wc ∧ Sl h 5 ba xs.length bc (xs.flatMap Hb.cells) (On col 31) ∧ Sl h 1 ia is.length ic (is.flatMap Li.v) (On col 32) ∧ Sl h 1 ta is.length tc (is.flatMap Li.t) (On col 33) ∧ Sl h 1 aa ats.length ac (ats.flatMap La.v) (On col 34) ∧ Sl h 1 wa ats.length wc (ats.flatMap La.t) (On col 35)
  bx : ∀ i (hi : i < xs.length), xs[i].Ok h col (40 + 5 * i)
  bi : ∀ i (hi : i < is.length), is[i].Ok h col (41 + 5 * i) (42 + 5 * i)
  ba : ∀ i (hi : i < ats.length), ats[i].Ok h col (43 + 5 * i) (44 + 5 * i)
  nx : xs.length ≤ c
  ni : is.length ≤ c
  na : ats.length ≤ c
section
variable {h h' : Heap} {col col' : Nat → Nat} {kb c : Nat} {xs : List Hb} {is : List Li} {ats : List La}
theorem Bk.keep (B : Bk h col kb xs is ats c) {F : Nat → Prop} (f : Fr F h h') (g : Ag h.size col col') (hF : ∀ b, 30 ≤ col b → ¬ F b) : Bk h' col' kb xs is ats c := by
  obtain ⟨ba, bc, ia, ic, ta, tc, aa, ac, wa, wc, r, s1, s2, s3, s4, s5⟩ := B.rows
  have q : ∀ k, 30 ≤ k → ∀ b, col b = k → ¬ F b := fun k hk b hb => hF b (by omega)
  have hb := B.so.lt
  have nb := hF kb (by rw [B.sc]; exact Nat.le_refl _)
  exact ⟨(g _ hb).trans B.sc, f.own hb nb B.so, ⟨ba, bc, ia, ic, ta, tc, aa, ac, wa, wc, (f.rd hb nb).trans r, s1.keep f g (q 31 (by decide)), s2.keep f g (q 32 (by decide)), s3.keep f g (q 33 (by decide)), s4.keep f g (q 34 (by decide)), s5.keep f g (q 35 (by decide))⟩,
    fun i hi => (B.bx i hi).keep f g (q _ (by omega)), fun i hi => ⟨(B.bi i hi).s.keep f g (q _ (by omega)), (B.bi i hi).t.keep f g (q _ (by omega)), (B.bi i hi).max⟩, fun i hi => ⟨(B.ba i hi).s.keep f g (q _ (by omega)), (B.ba i hi).t.keep f g (q _ (by omega)), (B.ba i hi).e, (B.ba i hi).same, (B.ba i hi).max⟩, B.nx, B.ni, B.na⟩
theorem Bk.no (B : Bk h col kb xs is ats c) (f : Fr No h h') (g : Ag h.size col col') : Bk h' col' kb xs is ats c := B.keep f g fun _ _ y => y
theorem Bk.le (B : Bk h col kb xs is ats c) {c' : Nat} (hc : c ≤ c') : Bk h col kb xs is ats c' := { B with nx := Nat.le_trans B.nx hc, ni := Nat.le_trans B.ni hc, na := Nat.le_trans B.na hc }
/-- one item is changed, the others stand -/
theorem Bk.only (B : Bk h col kb xs is ats c) {k : Nat} (f : Fr (On col k) h h') (g : Ag h.size col col') (hk : ∀ i, (i < xs.length → k ≠ 40 + 5 * i) ∧ (i < is.length → k ≠ 41 + 5 * i ∧ k ≠ 42 + 5 * i) ∧ (i < ats.length → k ≠ 43 + 5 * i ∧ k ≠ 44 + 5 * i)) (h40 : 40 ≤ k) : Bk h' col' kb xs is ats c := by
  obtain ⟨ba, bc, ia, ic, ta, tc, aa, ac, wa, wc, r, s1, s2, s3, s4, s5⟩ := B.rows
  have q : ∀ k', k' ≠ k → ∀ b, col b = k' → ¬ On col k b := fun k' hk' b hb y => hk' (hb.symm.trans y)
  have hb := B.so.lt
  have nb := q 30 (by omega) kb B.sc
  exact ⟨(g _ hb).trans B.sc, f.own hb nb B.so, ⟨ba, bc, ia, ic, ta, tc, aa, ac, wa, wc, (f.rd hb nb).trans r, s1.keep f g (q 31 (by omega)), s2.keep f g (q 32 (by omega)), s3.keep f g (q 33 (by omega)), s4.keep f g (q 34 (by omega)), s5.keep f g (q 35 (by omega))⟩,
    fun i hi => (B.bx i hi).keep f g (q _ ((hk i).1 hi).symm), fun i hi => ⟨(B.bi i hi).s.keep f g (q _ ((hk i).2.1 hi).1.symm), (B.bi i hi).t.keep f g (q _ ((hk i).2.1 hi).2.symm), (B.bi i hi).max⟩, fun i hi => ⟨(B.ba i hi).s.keep f g (q _ ((hk i).2.2 hi).1.symm), (B.ba i hi).t.keep f g (q _ ((hk i).2.2 hi).2.symm), (B.ba i hi).e, (B.ba i hi).same, (B.ba i hi).max⟩, B.nx, B.ni, B.na⟩
/-- a list of bytes more -/
theorem bytes_k1 {h1 h6 : Heap} {x : Hb} {K : Value → Heap → Prop} (B : Bk h6 col kb xs is ats c) (hc : c < 1000000000000) (o : x.Ok h6 col (40 + 5 * xs.length)) (r : rd h6 h1.size = x.cells)
    (hK : ∀ h' col', Fr (fun b => col b = 30 ∨ col b = 31) h6 h' → Ag h6.size col col' → Bk h' col' kb (xs ++ [x]) is ats (c + 1) → K (.tuple #[]) h') : bolelaw03_Book_bytes.k1 (some ⟨kb, 0, none⟩) h1 h6 K := by
  obtain ⟨ba, bc, ia, ic, ta, tc, aa, ac, wa, wc, r0, s1, s2, s3, s4, s5⟩ := B.rows
  have lkb := B.so.lt
  have nx := B.nx
  unfold bolelaw03_Book_bytes.k1
  refine os ⟨_, _, _, rda r0 rfl, _, rfl, cellsAll r, rfl, New.intro fun h7 n7 => ⟨rda ((n7.at_ lkb).trans r0) rfl, _, rfl, cellsAll n7.rd, Hb.one x, ?_⟩⟩
  refine append_col (s1.fr n7.fr fun _ _ _ y => y) rfl rfl (by show (xs.length + 1) * 64 ≤ _; omega) (by omega) fun a8 c8 h8 f8 s8 => ?_
  have B7 := B.no n7.fr (Ag.refl _ _)
  have g8 : Ag h7.size col (upd col h7.size 31) := ag_upd _ _ _
  have q : ∀ k', k' ≠ 31 → ∀ b, col b = k' → ¬ On col 31 b := fun k' hk' b hb y => hk' (hb.symm.trans y)
  have lkb7 := B7.so.lt
  have nb := q 30 (by decide) kb B.sc
  have r8 := (f8.rd lkb7 nb).trans ((n7.at_ lkb).trans r0)
  refine os (Put.add (f8.own lkb7 nb B7.so) (by rw [r8]; exact (by decide : 0 + 0 < 5)) fun h9 d9 => ?_)
  rw [r8] at d9
  have z8 := f8.size
  have sc8 : upd col h7.size 31 kb = 30 := (g8 kb lkb7).trans B.sc
  have ne : ∀ k, k ≠ 30 → ∀ b, upd col h7.size 31 b = k → ¬ (fun b => b = kb) b := fun k hk b hb (y : b = kb) => by rw [y, sc8] at hb; exact hk hb.symm
  have kp : ∀ {ec : Nat} {a : Option Addr} {l c : Nat} {vs : List Value} {k : Nat}, Sl h6 ec a l c vs (On col k) → k ≠ 31 → k ≠ 30 → Sl h9 ec a l c vs (On (upd col h7.size 31) k) := fun s k1 k2 => (((s.fr n7.fr fun _ _ _ y => y).keep f8 g8 (q _ k1)).keep d9.fr (Ag.refl _ _) (ne _ k2))
  have F9 : Fr (fun b => col b = 30 ∨ col b = 31) h6 h9 := ((n7.fr.mono fun _ _ y => y.elim).trans f8 fun b _ y => .inr y).did d9 fun _ => .inl B.sc
  have okx : ∀ {y : Hb} {k : Nat}, y.Ok h6 col k → k ≠ 31 → k ≠ 30 → y.Ok h9 (upd col h7.size 31) k := fun o k1 k2 => ⟨kp o.sl k1 k2, o.yes, o.no, o.max⟩
  refine hK h9 (upd col h7.size 31) F9 (g8.le n7.fr.size) ⟨sc8, d9.own, ⟨a8, c8, ia, ic, ta, tc, aa, ac, wa, wc, ?_, ?_, kp s2 (by decide) (by decide), kp s3 (by decide) (by decide), kp s4 (by decide) (by decide), kp s5 (by decide) (by decide)⟩, fun i hi => ?_, fun i hi => ⟨kp (B.bi i hi).s (by omega) (by omega), kp (B.bi i hi).t (by omega) (by omega), (B.bi i hi).max⟩, fun i hi => ⟨kp (B.ba i hi).s (by omega) (by omega), kp (B.ba i hi).t (by omega) (by omega), (B.ba i hi).e, (B.ba i hi).same, (B.ba i hi).max⟩, by rw [List.length_append]; exact Nat.succ_le_succ nx, Nat.le_succ_of_le B.ni, Nat.le_succ_of_le B.na⟩
  · rw [d9.rd, List.length_append]; rfl
  · rw [List.length_append, List.flatMap_append]
    have e1 : List.flatMap Hb.cells [x] = x.cells := by simp
    rw [e1]
    exact s8.keep d9.fr (Ag.refl _ _) (ne _ (by decide))
  · by_cases e : i = xs.length
    · subst e
      rw [List.getElem_append_right (Nat.le_refl _)]
      simp only [Nat.sub_self, List.getElem_singleton]
      exact okx o (by omega) (by omega)
    · have hi' : i < xs.length := by rw [List.length_append] at hi; have hi : i < xs.length + 1 := hi; omega
      rw [List.getElem_append_left hi']
      exact okx (B.bx i hi') (by omega) (by omega)
theorem bytes_spec {a : Option Addr} {l cc : Nat} {bs : List UInt8} {K : Value → Heap → Prop} (B : Bk h col kb xs is ats c) (hc : c < 1000000000000) (hl : l ≤ 140737488355000) (s : Sl h 1 a l cc (bs.map bv) (On col (40 + 5 * xs.length)))
    (hK : ∀ h' col' x, Fr (fun b => col b = 30 ∨ col b = 31 ∨ col b = 40 + 5 * xs.length) h h' → Ag h.size col col' → Bk h' col' kb (xs ++ [x]) is ats (c + 1) → K (.tuple #[]) h') : C.bolelaw03_Book_bytes (some ⟨kb, 0, none⟩) a l cc h K := by
  obtain ⟨ba, bc, ia, ic, ta, tc, aa, ac, wa, wc, r0, s1, s2, s3, s4, s5⟩ := B.rows
  have nx := B.nx
  have hbl : bs.length = l := s.str.1
  obtain ⟨mk, emk⟩ : ∃ mk : UInt8, (Value.int .u8 (IntKind.wrap .u8 ((IntKind.wrap .i64 ((IntKind.wrap .i64 ((xs.length : Int) * 2)) + 1))))) = bv mk := ⟨_, L3.bv_wrap _⟩
  refine bolelaw03_Book_bytes.ok (os ⟨_, _, _, rda r0 rfl, bs, s.str, ?_⟩)
  rw [emk]
  obtain ⟨kp, ekp⟩ : ∃ kp : Bool, ((Int.tmod (xs.length : Int) 2) == 0) = kp := ⟨_, rfl⟩
  rw [ekp]
  have ex : ([.slice a l cc, .int .i64 (l : Int), bv mk, .string (mkStr bs), .bool kp] : List Value) = Hb.cells ⟨a, l, cc, l, mk, bs, kp, bs⟩ := rfl
  rw [ex]
  refine NewRow.intro rfl (Hb.one _) rfl fun h3 n3 => ⟨_, rda n3.rd rfl, cnot ?_⟩
  have z3 := n3.size
  have g3 : Ag h.size col (upd col h.size 0) := ag_upd _ _ _
  have B3 := B.no n3.fr g3
  have s3' := s.keep n3.fr g3 fun _ _ y => y
  have F3 : Fr (fun b => col b = 30 ∨ col b = 31 ∨ col b = 40 + 5 * xs.length) h h3 := n3.fr.mono fun _ _ y => y.elim
  have dn : ∀ {c' : Nat → Nat}, Ag h.size col c' → ∀ b, b < h.size → (c' b = 30 ∨ c' b = 31) → (col b = 30 ∨ col b = 31 ∨ col b = 40 + 5 * xs.length) := fun g b hb y => by rw [g b hb] at y; exact y.elim .inl fun y => .inr (.inl y)
  cases kp with
  | true =>
    exact ct rfl (bytes_k1 B3 hc ⟨s3', fun _ => ⟨rfl, rfl⟩, fun y => (by cases y), hl⟩ n3.rd fun h' col' f g B' => hK h' col' _ (F3.trans f (dn g3)) (g3.trans g (by omega)) B')
  | false =>
    refine cf rfl ⟨_, rfl, cellsAll n3.rd, grown_spec (x := ⟨a, l, cc, l, mk, bs, false, bs⟩) s3' rfl hl fun a4 c4 h4 f4 s4' => ⟨_, rfl, ?_⟩⟩
    have z4 := f4.size
    have g4 : Ag h3.size (upd col h.size 0) (upd (upd col h.size 0) h3.size (40 + 5 * xs.length)) := ag_upd _ _ _
    have B4 := B3.only f4 g4 (fun i => ⟨fun hi => by omega, fun hi => by omega, fun hi => by omega⟩) (by omega)
    have c0 : upd col h.size 0 h.size = 0 := upd_ge (Nat.le_refl _)
    have nb : ¬ On (upd col h.size 0) (40 + 5 * xs.length) h.size := fun y => by have y : upd col h.size 0 h.size = 40 + 5 * xs.length := y; omega
    have r4 : rd h4 h.size = Hb.cells ⟨a, l, cc, l, mk, bs, false, bs⟩ := (f4.rd (by omega) nb).trans n3.rd
    have o4 := f4.own (by omega) nb n3.own
    refine PutRow.intro o4 rfl (Hb.one _) (by rw [r4]; exact (by decide : 0 + 5 ≤ 5)) fun h5 d5 => ?_
    have z5 := d5.size
    have sc0 : upd (upd col h.size 0) h3.size (40 + 5 * xs.length) h.size = 0 := (g4 _ (by omega)).trans c0
    have ne : ∀ k, k ≠ 0 → ∀ b, upd (upd col h.size 0) h3.size (40 + 5 * xs.length) b = k → ¬ (fun b => b = h.size) b := fun k hk b hb (y : b = h.size) => by rw [y, sc0] at hb; exact hk hb.symm
    have B5 := B4.keep d5.fr (Ag.refl _ _) fun b hb (y : b = h.size) => by rw [y, sc0] at hb; omega
    have s5' := s4'.keep d5.fr (Ag.refl _ _) (ne _ (by omega))
    have G5 : Ag h.size col (upd (upd col h.size 0) h3.size (40 + 5 * xs.length)) := g3.trans g4 (by omega)
    have F5 : Fr (fun b => col b = 30 ∨ col b = 31 ∨ col b = 40 + 5 * xs.length) h h5 := (F3.trans f4 fun b hb y => .inr (.inr (by have y : upd col h.size 0 b = 40 + 5 * xs.length := y; rw [g3 b hb] at y; exact y))).did d5 fun y => by omega
    refine bytes_k1 (x := Hb.grow ⟨a, l, cc, l, mk, bs, false, bs⟩ a4 c4) B5 hc ⟨s5', fun y => (by cases y), fun _ => rfl, hl⟩ (by rw [d5.rd]; exact put_all _ _ (by rw [r4]; rfl)) fun h' col' f g B' => hK h' col' _ (F5.trans f (dn G5)) (G5.trans g (by omega)) B'
end
end Go.Proofs.Ytnbfaokpaiiojaa.Ap
