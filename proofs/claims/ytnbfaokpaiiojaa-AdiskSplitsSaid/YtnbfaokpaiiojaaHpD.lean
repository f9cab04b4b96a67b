/-
  ONE STEP OF A FORMULA: its lemma.
-/
import Derived.Test.YtnbfaokpaiiojaaHpC
import Derived.Test.YtnbfaokpaiiojaaWxP
namespace Go.Proofs.Ytnbfaokpaiiojaa.Hp
open Go Go.Proofs Go.Proofs.Ytnbfaokpaiiojaa.Wx

theorem one2 {a b : Value} (ha : a.oneCell' = true) (hb : b.oneCell' = true) : ∀ v ∈ [a, b], v.oneCell' = true := by
  intro v hv; rcases List.mem_cons.mp hv with rfl | hv
  · exact ha
  · rw [List.mem_singleton.mp hv]; exact hb
theorem os {α : Type} {a : α} {k : α → Prop} (h : k a) : onSome (some a) k := h
theorem ct {c : Bool} {A B : Prop} (h : c = true) (a : A) : bif c then A else B := by subst h; exact a
theorem cf {c : Bool} {A B : Prop} (h : c = false) (b : B) : bif c then A else B := by subst h; exact b
theorem cs {c : Bool} {A B : Prop} (a : c = true → A) (b : c = false → B) : bif c then A else B := by
  cases c
  · exact b rfl
  · exact a rfl
theorem cd {p : Prop} [Decidable p] {A B : Prop} (a : p → A) (b : ¬ p → B) : bif decide p then A else B := by
  by_cases h : p
  · rw [decide_eq_true h]; exact a h
  · rw [decide_eq_false h]; exact b h
theorem ce {x y : Int} {A B : Prop} (a : x = y → A) (b : x ≠ y → B) : bif x == y then A else B := by
  by_cases h : x = y
  · exact ct (by simpa using h) (a h)
  · exact cf (by simpa using h) (b h)
theorem cn {x y : Int} {A B : Prop} (a : x ≠ y → A) (b : x = y → B) : bif x != y then A else B := by
  by_cases h : x = y
  · exact cf (by simpa using h) (b h)
  · exact ct (by simpa using h) (a h)
theorem cnot {c : Bool} {A B : Prop} (h : bif c then B else A) : bif !c then A else B := by cases c <;> exact h

/-- h' is h with one block more, that holds cs -/
structure Newly (h h' : Heap) (cs : List Value) : Prop where
  size : h'.size = h.size + 1
  fr : Fr No h h'
  own : Own h' h.size
  rd : rd h' h.size = cs
theorem New.intro {cs : List Value} {t : Nat} {h : Heap} {k : Heap → Prop} (H : ∀ h', Newly h h' cs → k h') : New cs t h k :=
  H _ ⟨size_newO _ _ _, fr_newO _ _, own_newO_at _ _ _, rd_newO_at _ _ _⟩
theorem NewRow.intro {z : List Value} {t : Nat} {cs : List Value} {n : Nat} {h : Heap} {k : Heap → Prop} (hl : cs.length = n) (h1 : ∀ v ∈ cs, v.oneCell' = true) (hz : z.length = n)
    (H : ∀ h', Newly h h' cs → k h') : NewRow z t cs n h k :=
  ⟨stRow_rd (own_newO_at _ _ _) hl h1 (by rw [rd_newO_at, hz]; omega),
    H _ ⟨by rw [size_setRow, size_newO], Fr.setRow (Or.inr (Nat.le_refl _)) (fr_newO _ _), own_setRow (own_newO_at _ _ _), by rw [rd_setRow_at, rd_newO_at, Nat.zero_add, put_all _ _ (by rw [hl, hz])]⟩⟩
/-- h' is h, but for block b, that holds cs -/
structure Did (b : Nat) (h h' : Heap) (cs : List Value) : Prop where
  size : h'.size = h.size
  fr : Fr (fun x => x = b) h h'
  own : Own h' b
  rd : Hp.rd h' b = cs
theorem Put.intro {b o : Nat} {v : Value} {h : Heap} {k : Heap → Prop} (w : Own h b) (hl : o < (rd h b).length) (H : ∀ h', Did b h h' ((rd h b).set o v) → k h') : Put ⟨b, o, none⟩ v h k :=
  ⟨wr_rd w hl, H _ ⟨size_setOf _ _ _, (Fr.refl _ h).setOf (Or.inl rfl), own_setOf w, rd_setOf_at _ _ _ _⟩⟩
theorem Put.add {b o n : Nat} {v : Value} {h : Heap} {k : Heap → Prop} (w : Own h b) (hl : o + n < (rd h b).length) (H : ∀ h', Did b h h' ((rd h b).set (o + n) v) → k h') : Put (Addr.add ⟨b, o, none⟩ n) v h k := by
  rw [add_mk]; exact Put.intro w hl H
theorem PutRow.intro {b o n : Nat} {cs : List Value} {h : Heap} {k : Heap → Prop} (w : Own h b) (hn : cs.length = n) (h1 : ∀ v ∈ cs, v.oneCell' = true) (hl : o + n ≤ (rd h b).length)
    (H : ∀ h', Did b h h' (put (rd h b) o cs) → k h') : PutRow ⟨b, o, none⟩ cs n h k :=
  ⟨stRow_rd w hn h1 hl, H _ ⟨size_setRow _ _ _ _, Fr.setRow (F := fun x => x = b) (Or.inl rfl) (Fr.refl _ h), own_setRow w, by rw [rd_setRow_at, Nat.add_zero]⟩⟩
theorem PutRow.add {b o m n : Nat} {cs : List Value} {h : Heap} {k : Heap → Prop} (w : Own h b) (hn : cs.length = n) (h1 : ∀ v ∈ cs, v.oneCell' = true) (hl : o + m + n ≤ (rd h b).length)
    (H : ∀ h', Did b h h' (put (rd h b) (o + m) cs) → k h') : PutRow (Addr.add ⟨b, o, none⟩ m) cs n h k := by
  rw [add_mk]; exact PutRow.intro w hn h1 hl H
/-- a cell of a block that is known -/
theorem rdc {h : Heap} {b o : Nat} {xs : List Value} {v : Value} (e : rd h b = xs) (hv : xs[o]? = some v) : cellOf h ⟨b, o, none⟩ = some v := by rw [cellOf_rd, e]; exact hv
theorem rda {h : Heap} {b o n : Nat} {xs : List Value} {v : Value} (e : rd h b = xs) (hv : xs[o + n]? = some v) : cellOf h (Addr.add ⟨b, o, none⟩ n) = some v := by rw [add_mk, cellOf_rd, e]; exact hv
theorem cellsa {h : Heap} {b o n : Nat} {xs ys : List Value} (e : rd h b = xs) (hy : (xs.drop (o + n)).take ys.length = ys) : Cells h (Addr.add ⟨b, o, none⟩ n) ys := by rw [add_mk]; exact cells_rd (by rw [e]; exact hy)
theorem cellsAll {h : Heap} {b : Nat} {xs : List Value} (e : rd h b = xs) : Cells h ⟨b, 0, none⟩ xs := cells_rd (by rw [e, List.drop_zero, List.take_length])
/-- a block that is known, as bytes -/
theorem strAll {h : Heap} {b l : Nat} {bs : List UInt8} (e : rd h b = bs.map bv) (hl : bs.length = l) : StrAt h (some ⟨b, 0, none⟩) l bs := ⟨hl, cellsAll e⟩
theorem cs_ite {c : Prop} [Decidable c] {α : Type} {a b : α} {P : α → Prop} (h1 : c → P a) (h2 : ¬ c → P b) : P (if c then a else b) := by split <;> simp_all
theorem Did.at_ {b c : Nat} {h h' : Heap} {cs : List Value} (d : Did b h h' cs) (hc : c < h.size) (hn : c ≠ b) : Hp.rd h' c = Hp.rd h c := d.fr.rd hc hn
theorem Did.ow {b c : Nat} {h h' : Heap} {cs : List Value} (d : Did b h h' cs) (w : Own h c) : Own h' c := by
  by_cases e : c = b
  · subst e; exact d.own
  · exact d.fr.own w.lt e w
theorem Newly.at_ {c : Nat} {h h' : Heap} {cs : List Value} (d : Newly h h' cs) (hc : c < h.size) : Hp.rd h' c = Hp.rd h c := d.fr.rd hc (fun x => x)
theorem Newly.ow {c : Nat} {h h' : Heap} {cs : List Value} (d : Newly h h' cs) (w : Own h c) : Own h' c := d.fr.own w.lt (fun x => x) w
/-- what falls in a loop that counts up -/
theorem falls {n : Int} {m : Nat} (h : n < m) : ((m : Int) - (n + 1)).toNat < ((m : Int) - n).toNat := by omega
/-- frames go on -/
theorem Fr.new {F : Nat → Prop} {h h1 h2 : Heap} {cs : List Value} (f : Fr F h h1) (d : Newly h1 h2 cs) : Fr F h h2 := f.no d.fr
theorem Fr.did {F : Nat → Prop} {h h1 h2 : Heap} {cs : List Value} {b : Nat} (f : Fr F h h1) (d : Did b h1 h2 cs) (hb : b < h.size → F b) : Fr F h h2 := f.trans d.fr (fun _ hl e => e ▸ hb (e ▸ hl))
end Go.Proofs.Ytnbfaokpaiiojaa.Hp
