/-
  bolelaw03.AdiskPlays: numbers go into the book.
-/
import Derived.Test.YtnbfaokpaiiojaaApC
namespace Go.Proofs.Ytnbfaokpaiiojaa.Ap
open Go Go.Proofs Go.Proofs.Ytnbfaokpaiiojaa.Wx Go.Proofs.Ytnbfaokpaiiojaa.Hp Go.Proofs.Ytnbfaokpaiiojaa.W Go.Proofs.Ytnbfaokpaiiojaa.Ad Go.Proofs.Ytnbfaokpaiiojaa.L3 Go.Proofs.Ytnbfaokpaiiojaa.Rf

/-- what is kept when row q of the book grows -/
def Kept (h h' : Heap) (col col' : Nat → Nat) (q : Nat) : Prop := ∀ {ec : Nat} {a : Option Addr} {l c : Nat} {vs : List Value} {k : Nat}, Sl h ec a l c vs (On col k) → k ≠ 31 + q → k ≠ 30 → Sl h' ec a l c vs (On col' k)
/-- a list pushed at the end of row q of the book (its colour 31 + q) -/
theorem row_push {h : Heap} {col : Nat → Nat} {kb q : Nat} {xs : List Value} {ra : Option Addr} {rl rc : Nat} {sa : Option Addr} {sl sc : Nat} {cs : List Value} {X : Heap → Prop} (hs : col kb = 30) (so : Own h kb) (hr : rd h kb = cs) (h5 : cs.length = 5) (hq : q < 5) (hc : cs[q]? = some (.slice ra rl rc)) (s : Sl h 1 ra rl rc xs (On col (31 + q))) (hm : rl < 1000000000000) {ti : TI} {tb : Nat} (t1 : ti.cells = 1) (t2 : ti.zero.length = ti.cells) (t3 : ti.bytes = 24)
    (hX : ∀ h' a c col', Fr (fun b => col b = 30 ∨ col b = 31 + q) h h' → Ag h.size col col' → rd h' kb = cs.set q (.slice a (rl + 1) c) → Own h' kb → Sl h' 1 a (rl + 1) c (xs ++ [.slice sa sl sc]) (On col' (31 + q)) → Kept h h' col col' q → X h') :
    ∃ (sA3 : Option Addr) (sL3 : Nat) (sC3 : Nat), cellOf h (Addr.add ⟨kb, 0, none⟩ q) = some (.slice sA3 sL3 sC3) ∧ New [.slice sa sl sc] tb h fun h7 =>
      ∃ new2 : List Value, List.length new2 = 1 * 1 ∧ SlCells h7 (some ⟨h.size, 0, none⟩) new2 ∧ (∀ v ∈ new2, v.oneCell' = true) ∧ AppendP ti tb sA3 sL3 sC3 1 new2 h7 fun sA4 sL4 sC4 h8 => onSome (some (⟨kb, 0, none⟩ : Addr)) fun p5 => Put (Addr.add p5 q) (.slice sA4 sL4 sC4) h8 fun h9 => X h9 := by
  have lkb := so.lt
  refine ⟨ra, rl, rc, rda hr (by rw [Nat.zero_add]; exact hc), New.intro fun h7 n7 => ⟨_, rfl, cellsAll n7.rd, fun v hv => by rw [List.mem_singleton.mp hv]; rfl, ?_⟩⟩
  have z7 := n7.size
  have g7 : Ag h.size col (upd col h.size 0) := ag_upd _ _ _
  have s7 : Sl h7 ti.cells ra rl rc xs (On (upd col h.size 0) (31 + q)) := by rw [t1]; exact s.keep n7.fr g7 fun _ _ y => y
  refine append_col s7 (by rw [t1]; rfl) t2 (by rw [t3]; omega) (by omega) fun a8 c8 h8 f8 s8 => ?_
  rw [t1] at s8
  have g8 : Ag h7.size (upd col h.size 0) (upd (upd col h.size 0) h7.size (31 + q)) := ag_upd _ _ _
  have sc7 : upd col h.size 0 kb = 30 := (g7 kb lkb).trans hs
  have nb : ¬ On (upd col h.size 0) (31 + q) kb := fun y => by have y : upd col h.size 0 kb = 31 + q := y; omega
  have lkb7 : kb < h7.size := by omega
  have r8 : rd h8 kb = cs := (f8.rd lkb7 nb).trans ((n7.at_ lkb).trans hr)
  refine os (Put.add (f8.own lkb7 nb (n7.ow so)) (by rw [r8, h5]; omega) fun h9 d9 => ?_)
  rw [r8] at d9
  have z8 := f8.size
  have z9 := d9.size
  have sc8 : upd (upd col h.size 0) h7.size (31 + q) kb = 30 := (g8 kb lkb7).trans sc7
  have ne : ∀ k, k ≠ 30 → ∀ b, upd (upd col h.size 0) h7.size (31 + q) b = k → ¬ (fun b => b = kb) b := fun k hk b hb (y : b = kb) => by rw [y, sc8] at hb; exact hk hb.symm
  have q8 : ∀ k', k' ≠ 31 + q → ∀ b, upd col h.size 0 b = k' → ¬ On (upd col h.size 0) (31 + q) b := fun k' hk' b hb y => hk' (hb.symm.trans y)
  have F9 : Fr (fun b => col b = 30 ∨ col b = 31 + q) h h9 := ((n7.fr.mono fun _ _ y => y.elim).trans f8 fun b hb y => .inr (by have y : upd col h.size 0 b = 31 + q := y; rw [g7 b hb] at y; exact y)).did d9 fun _ => .inl hs
  refine hX h9 a8 c8 _ F9 (g7.trans g8 (by omega)) (by rw [d9.rd, Nat.zero_add]) d9.own (s8.keep d9.fr (Ag.refl _ _) (ne _ (by omega))) fun s k1 k2 => ?_
  exact ((s.keep n7.fr g7 fun _ _ y => y).keep f8 g8 (q8 _ k1)).keep d9.fr (Ag.refl _ _) (ne _ k2)
section
variable {h : Heap} {col : Nat → Nat} {kb c : Nat} {xs : List Hb} {is : List Li} {ats : List La}
theorem ints_k1 {x : Li} {K : Value → Heap → Prop} (B : Bk h col kb xs is ats c) (hc : c < 1000000000000) (o : x.Ok h col (41 + 5 * is.length) (42 + 5 * is.length))
    (hK : ∀ h' col', Fr (fun b => col b = 30 ∨ col b = 32 ∨ col b = 33) h h' → Ag h.size col col' → Bk h' col' kb xs (is ++ [x]) ats (c + 1) → K (.tuple #[]) h') : bolelaw03_Book_ints.k1 (some ⟨kb, 0, none⟩) x.a x.l x.c x.ta x.l x.tc h K := by
  obtain ⟨ba, bc, ia, ic, ta, tc, aa, ac, wa, wc, r0, s1, s2, s3, s4, s5⟩ := B.rows
  have ni := B.ni
  unfold bolelaw03_Book_ints.k1
  refine os (row_push (q := 1) (sa := x.a) (sl := x.l) (sc := x.c) B.sc B.so r0 rfl (by decide) rfl s2 (by omega) rfl rfl rfl fun h9 b9 e9 col9 F9 G9 r9 o9 t9 k9 => ?_)
  have sc9 : col9 kb = 30 := (G9 kb B.so.lt).trans B.sc
  refine os (row_push (q := 2) (sa := x.ta) (sl := x.l) (sc := x.tc) sc9 o9 r9 rfl (by decide) rfl (k9 s3 (by decide) (by decide)) (by omega) rfl rfl rfl fun h12 b12 e12 col12 F12 G12 r12 o12 t12 k12 => ?_)
  have kp : ∀ {ec : Nat} {a : Option Addr} {l c : Nat} {vs : List Value} {k : Nat}, Sl h ec a l c vs (On col k) → k ≠ 32 → k ≠ 33 → k ≠ 30 → Sl h12 ec a l c vs (On col12 k) := fun s y1 y2 y3 => k12 (k9 s y1 y3) y2 y3
  have z9 := F9.size
  refine hK h12 col12 ((F9.mono fun b _ y => y.elim .inl fun y => .inr (.inl y)).trans F12 fun b hb y => by have y : col9 b = 30 ∨ col9 b = 33 := y; rw [G9 b hb] at y; exact y.elim .inl fun y => .inr (.inr y)) (G9.trans G12 z9) ⟨(G12 kb o9.lt).trans sc9, o12, ⟨ba, bc, b9, e9, b12, e12, aa, ac, wa, wc, ?_, kp s1 (by decide) (by decide) (by decide), ?_, ?_, kp s4 (by decide) (by decide) (by decide), kp s5 (by decide) (by decide) (by decide)⟩, fun i hi => ?_, fun i hi => ?_, fun i hi => ?_, Nat.le_succ_of_le B.nx, by rw [List.length_append]; exact Nat.succ_le_succ ni, Nat.le_succ_of_le B.na⟩
  · rw [r12, List.length_append]; rfl
  · rw [List.length_append, List.flatMap_append, List.flatMap_singleton]
    exact k12 t9 (by decide) (by decide)
  · rw [List.length_append, List.flatMap_append, List.flatMap_singleton]
    exact t12
  · have := B.bx i hi
    exact ⟨kp this.sl (by omega) (by omega) (by omega), this.yes, this.no, this.max⟩
  · by_cases e : i = is.length
    · subst e
      rw [List.getElem_append_right (Nat.le_refl _)]
      simp only [Nat.sub_self, List.getElem_singleton]
      exact ⟨kp o.s (by omega) (by omega) (by omega), kp o.t (by omega) (by omega) (by omega), o.max⟩
    · have hi' : i < is.length := by rw [List.length_append] at hi; have hi : i < is.length + 1 := hi; omega
      rw [List.getElem_append_left hi']
      exact ⟨kp (B.bi i hi').s (by omega) (by omega) (by omega), kp (B.bi i hi').t (by omega) (by omega) (by omega), (B.bi i hi').max⟩
  · have := B.ba i hi
    exact ⟨kp this.s (by omega) (by omega) (by omega), kp this.t (by omega) (by omega) (by omega), this.e, this.same, this.max⟩
end
end Go.Proofs.Ytnbfaokpaiiojaa.Ap
