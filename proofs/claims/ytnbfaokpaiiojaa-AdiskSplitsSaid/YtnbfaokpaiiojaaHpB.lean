/-
  ROWS OF ONE'S OWN: slices that may be written and appended to; sums that do not leave their kind.
-/
import Derived.Test.YtnbfaokpaiiojaaHpA
namespace Go.Proofs.Ytnbfaokpaiiojaa.Hp
open Go Go.Proofs Go.Proofs.Ytnbfaokpaiiojaa.Wx

theorem wrap_i64 {n : Int} (h1 : -9223372036854775808 ≤ n) (h2 : n ≤ 9223372036854775807) : IntKind.wrap .i64 n = n := by
  simp only [IntKind.wrap, IntKind.bits, IntKind.signed, Bool.true_and, ge_iff_le, decide_eq_true_eq, Nat.reduceSub, Int.reducePow]
  split <;> omega
theorem wrap_u8 {n : Int} (h1 : 0 ≤ n) (h2 : n ≤ 255) : IntKind.wrap .u8 n = n := by
  simp only [IntKind.wrap, IntKind.bits, IntKind.signed, Bool.false_and, Bool.false_eq_true, if_false, Int.reducePow]
  omega
theorem HCalls.mono {P : Program} {g : Nat} {args : List Value} {h : Heap} {k k' : Value → Heap → Prop} (H : HCalls P g args h k) (hk : ∀ v h', k v h' → k' v h') : HCalls P g args h k' := by
  obtain ⟨c, H⟩ := H
  refine ⟨c, fun w hw => (H w hw).mono fun e w' ⟨v, e1, e2, e3⟩ => ⟨v, e1, e2, hk v _ e3⟩⟩

/-- l elements of ec cells each: xs, with room for c, in a block of F -/
def Sl (h : Heap) (ec : Nat) (a : Option Addr) (l c : Nat) (xs : List Value) (F : Nat → Prop) : Prop :=
  xs.length = l * ec ∧ match a with
    | none => l = 0 ∧ c = 0
    | some p => p.spot = none ∧ F p.block ∧ Own h p.block ∧ l ≤ c ∧ ((rd h p.block).drop p.off).take xs.length = xs ∧ p.off + c * ec ≤ (rd h p.block).length

theorem Sl.nil (h : Heap) (ec : Nat) (F : Nat → Prop) : Sl h ec none 0 0 [] F := ⟨by simp, rfl, rfl⟩
theorem Sl.mono {h : Heap} {ec : Nat} {a : Option Addr} {l c : Nat} {xs : List Value} {F G : Nat → Prop} (s : Sl h ec a l c xs F) (hs : ∀ b, F b → G b) : Sl h ec a l c xs G := by
  obtain ⟨h1, h2⟩ := s
  refine ⟨h1, ?_⟩
  cases a with
  | none => exact h2
  | some p => obtain ⟨a1, a2, a3⟩ := h2; exact ⟨a1, hs _ a2, a3⟩
theorem Sl.fr {h h' : Heap} {ec : Nat} {a : Option Addr} {l c : Nat} {xs : List Value} {F G : Nat → Prop} (f : Fr G h h') (s : Sl h ec a l c xs F) (hs : ∀ b, b < h.size → F b → ¬ G b) : Sl h' ec a l c xs F := by
  obtain ⟨h1, h2⟩ := s
  refine ⟨h1, ?_⟩
  cases a with
  | none => exact h2
  | some p =>
    obtain ⟨a1, a2, a3, a4, a5, a6⟩ := h2
    have hG := hs _ a3.lt a2
    refine ⟨a1, a2, f.own a3.lt hG a3, a4, ?_, ?_⟩
    · rw [f.rd a3.lt hG]; exact a5
    · rw [f.rd a3.lt hG]; exact a6
theorem Sl.cells {h : Heap} {ec : Nat} {a : Option Addr} {l c : Nat} {xs : List Value} {F : Nat → Prop} (s : Sl h ec a l c xs F) : SlCells h a xs := by
  obtain ⟨h1, h2⟩ := s
  cases a with
  | none => obtain ⟨rfl, _⟩ := h2; rw [Nat.zero_mul] at h1; exact List.length_eq_zero_iff.mp h1
  | some p =>
    obtain ⟨b, o, s⟩ := p
    obtain ⟨a1, a2, a3, a4, a5, a6⟩ := h2
    have a1 : s = none := a1
    subst a1
    exact cells_rd a5
theorem Sl.str {h : Heap} {a : Option Addr} {l c : Nat} {bs : List UInt8} {F : Nat → Prop} (s : Sl h 1 a l c (bs.map bv) F) : StrAt h a l bs :=
  ⟨by have := s.1; rw [List.length_map] at this; omega, s.cells⟩
theorem Sl.le {h : Heap} {ec : Nat} {a : Option Addr} {l c : Nat} {xs : List Value} {F : Nat → Prop} (s : Sl h ec a l c xs F) : l ≤ c := by
  obtain ⟨_, h2⟩ := s
  cases a with
  | none => omega
  | some p => exact h2.2.2.2.1
/-- a new block -/
theorem Sl.new (h : Heap) (ec t l c : Nat) (xs zs : List Value) (F : Nat → Prop) (hF : F h.size) (hx : xs.length = l * ec) (hl : l ≤ c) (hz : zs.length = (c - l) * ec) :
    Sl (newO h (xs ++ zs) t) ec (some ⟨h.size, 0, none⟩) l c xs F := by
  refine ⟨hx, rfl, hF, own_newO_at _ _ _, hl, ?_, ?_⟩
  · simp only [rd_newO_at, List.drop_zero, List.take_left]
  · simp only [rd_newO_at, List.length_append, hx, hz, Nat.zero_add]
    rw [← Nat.add_mul]; exact Nat.mul_le_mul_right _ (by omega)
theorem take_put (X new : List Value) (o m : Nat) (h : o + m + new.length ≤ X.length) : ((put X (o + m) new).drop o).take (m + new.length) = (X.drop o).take m ++ new := by
  apply List.ext_getElem?
  intro i
  rw [List.getElem?_take]
  have hl : ((X.drop o).take m).length = m := by rw [List.length_take, List.length_drop]; omega
  by_cases h1 : i < m
  · rw [if_pos (by omega), List.getElem?_append_left (by omega), List.getElem?_drop, put_get _ _ _ _ h, if_neg (by omega), List.getElem?_take, if_pos h1, List.getElem?_drop]
  · by_cases h2 : i < m + new.length
    · rw [if_pos h2, List.getElem?_append_right (by omega), hl, List.getElem?_drop, put_get _ _ _ _ h, if_pos (by omega)]
      congr 1; omega
    · rw [if_neg h2, List.getElem?_eq_none (by rw [List.length_append]; omega)]
/-- append to a row of one's own -/
theorem append_own {elem : TI} {e : Nat} {a : Option Addr} {l c n : Nat} {xs new : List Value} {h : Heap} {F : Nat → Prop} {k : Option Addr → Nat → Nat → Heap → Prop}
    (s : Sl h elem.cells a l c xs F) (hn : new.length = n * elem.cells) (hz : elem.zero.length = elem.cells) (hb : (l + n) * elem.bytes ≤ 140737488355328) (hb' : l + n ≤ 140737488355328)
    (hk : ∀ a' c' h', Fr F h h' → Sl h' elem.cells a' (l + n) c' (xs ++ new) (fun b => F b ∨ h.size ≤ b) → k a' (l + n) c' h') :
    AppendP elem e a l c n new h k := by
  refine ⟨xs, s.1, s.cells, hb, hb', fun hc => ?_, fun hc cap hcap => ?_⟩
  · obtain ⟨h1, h2⟩ := s
    cases a with
    | none =>
      obtain ⟨rfl, rfl⟩ := h2
      have : n = 0 := by omega
      subst this
      rw [Nat.zero_mul] at hn h1
      have e1 := List.length_eq_zero_iff.mp hn
      have e2 := List.length_eq_zero_iff.mp h1
      subst e1; subst e2
      exact ⟨by simp [WrS], hk none 0 _ (Fr.refl _ _) (Sl.nil _ _ _)⟩
    | some p =>
      obtain ⟨b, o, sp⟩ := p
      obtain ⟨a1, a2, a3, a4, a5, a6⟩ := h2
      have a1 : sp = none := a1
      subst a1
      simp only at a2 a3 a5 a6
      have hm : (l + n) * elem.cells ≤ c * elem.cells := Nat.mul_le_mul_right _ hc
      rw [Nat.add_mul] at hm
      refine ⟨?_, hk (some ⟨b, o, none⟩) c _ ?_ ?_⟩
      · simp only [WrS, add_mk]; exact wrN_rd a3 (by omega)
      · simp only [setS, add_mk]; exact (Fr.refl F h).setRow (Or.inl a2)
      · simp only [setS, add_mk]
        refine ⟨by rw [List.length_append, h1, hn, Nat.add_mul], rfl, Or.inl a2, own_setRow a3, hc, ?_, ?_⟩
        · simp only [rd_setRow_at, Nat.add_zero, List.length_append, ← h1] at a5 ⊢
          rw [take_put _ _ _ _ (by rw [h1]; omega), a5]
        · simp only [rd_setRow_at, put_length]; exact a6
  · have hf : Fr F h (newO h (xs ++ new ++ repCells elem.zero (cap - (l + n))) e) := fr_newO _ _
    refine hk _ _ _ hf (Sl.new h elem.cells e (l + n) cap (xs ++ new) _ _ (Or.inr (Nat.le_refl _)) (by rw [List.length_append, s.1, hn, Nat.add_mul]) hcap ?_)
    rw [length_repCells, hz]
/-- append to nothing: a row of one's own -/
theorem append_nil {elem : TI} {e n : Nat} {new : List Value} {h : Heap} {k : Option Addr → Nat → Nat → Heap → Prop}
    (hn : new.length = n * elem.cells) (hz : elem.zero.length = elem.cells) (hb : n * elem.bytes ≤ 140737488355328) (hb' : n ≤ 140737488355328)
    (hk : ∀ a' c' h', Fr No h h' → Sl h' elem.cells a' n c' new (From h.size) → k a' n c' h') :
    AppendP elem e none 0 0 n new h k := by
  refine append_own (Sl.nil h _ No) hn hz (by simpa using hb) (by simpa using hb') fun a' c' h' f s => ?_
  simp only [Nat.zero_add, List.nil_append] at s ⊢
  exact hk a' c' h' f (s.mono fun b hb => hb.elim (fun x => x.elim) id)
theorem StrAt.src {h : Heap} {a : Option Addr} {l : Nat} {bs : List UInt8} (c : StrAt h a l bs) : (bs.map bv).length = l * 1 ∧ SlCells h a (bs.map bv) ∧ ∀ v ∈ bs.map bv, v.oneCell' = true :=
  ⟨by rw [List.length_map, c.1, Nat.mul_one], c.2, bv_one bs⟩
end Go.Proofs.Ytnbfaokpaiiojaa.Hp
