import Derived.Test.YtnbfaokpaiiojaaHpB
import Derived.Test.YtnbfaokpaiiojaaWxP
/-
  COLOURS: each block of the heap has one; a thing is spoken of by the colours of its blocks. Rows of equal parts.
-/
namespace Go.Proofs.Ytnbfaokpaiiojaa.Hp
open Go Go.Proofs Go.Proofs.Ytnbfaokpaiiojaa.Wx

def On (col : Nat → Nat) (k : Nat) : Nat → Prop := fun b => col b = k
/-- the blocks from n on get colour k -/
def upd (col : Nat → Nat) (n k : Nat) : Nat → Nat := fun b => if b < n then col b else k
/-- the same colours below n -/
def Ag (n : Nat) (col col' : Nat → Nat) : Prop := ∀ b, b < n → col' b = col b
/-- no block has a colour of m .. m+5 -/
def Free (h : Heap) (col : Nat → Nat) (m : Nat) : Prop := ∀ b, b < h.size → m ≤ col b → col b ≤ m + 5 → False
theorem Free.new {h : Heap} {col col' : Nat → Nat} {m b : Nat} (f : Free h col m) (g : Ag h.size col col') (h1 : m ≤ col' b) (h2 : col' b ≤ m + 5) : h.size ≤ b := by
  rcases Nat.lt_or_ge b h.size with hb | hb
  · rw [g b hb] at h1 h2; exact (f b hb h1 h2).elim
  · exact hb
theorem Free.upd {h : Heap} {col : Nat → Nat} {m k : Nat} (f : Free h col m) (hk : k < m ∨ m + 5 < k) (h' : Heap) : Free h' (upd col h.size k) m := by
  intro b _ h1 h2
  unfold Hp.upd at h1 h2
  split at h1
  · rename_i hb; rw [if_pos hb] at h2; exact f b hb h1 h2
  · rename_i hb; rw [if_neg hb] at h2; omega
theorem ag_upd (col : Nat → Nat) (n k : Nat) : Ag n col (upd col n k) := fun b hb => if_pos hb
theorem upd_ge {col : Nat → Nat} {n k b : Nat} (h : n ≤ b) : upd col n k b = k := if_neg (by omega)
theorem upd_lt {col : Nat → Nat} {n k b : Nat} (h : b < n) : upd col n k b = col b := if_pos h
theorem Ag.refl (n : Nat) (col : Nat → Nat) : Ag n col col := fun _ _ => rfl
theorem Ag.trans {m n : Nat} {c1 c2 c3 : Nat → Nat} (f : Ag m c1 c2) (g : Ag n c2 c3) (h : m ≤ n) : Ag m c1 c3 := fun b hb => (g b (by omega)).trans (f b hb)
theorem Ag.le {m n : Nat} {c1 c2 : Nat → Nat} (f : Ag n c1 c2) (h : m ≤ n) : Ag m c1 c2 := fun b hb => f b (by omega)

theorem Sl.lt {h : Heap} {ec l c : Nat} {p : Addr} {xs : List Value} {F : Nat → Prop} (s : Sl h ec (some p) l c xs F) : p.block < h.size := s.2.2.2.1.lt
/-- colours may be changed where the heap has no block yet -/
theorem Sl.ag {h : Heap} {ec l c k : Nat} {a : Option Addr} {xs : List Value} {col col' : Nat → Nat} (s : Sl h ec a l c xs (On col k)) (g : Ag h.size col col') : Sl h ec a l c xs (On col' k) := by
  obtain ⟨h1, h2⟩ := s
  refine ⟨h1, ?_⟩
  cases a with
  | none => exact h2
  | some p => obtain ⟨a1, a2, a3, a4⟩ := h2; exact ⟨a1, (g _ a3.lt).trans a2, a3, a4⟩
/-- a thing of colour k stays, where other colours were touched -/
theorem Sl.keep {h h' : Heap} {ec l c k : Nat} {a : Option Addr} {xs : List Value} {F : Nat → Prop} {col col' : Nat → Nat} (s : Sl h ec a l c xs (On col k)) (f : Fr F h h') (g : Ag h.size col col') (hF : ∀ b, col b = k → ¬ F b) : Sl h' ec a l c xs (On col' k) := by
  have s' := Sl.fr f s (fun b _ hb => hF b hb)
  obtain ⟨h1, h2⟩ := s'
  refine ⟨h1, ?_⟩
  cases a with
  | none => exact h2
  | some p => obtain ⟨a1, a2, a3, a4⟩ := h2; exact ⟨a1, (g _ s.lt).trans a2, a3, a4⟩
theorem append_col {elem : TI} {e : Nat} {a : Option Addr} {l c n k : Nat} {xs new : List Value} {h : Heap} {col : Nat → Nat} {K : Option Addr → Nat → Nat → Heap → Prop}
    (s : Sl h elem.cells a l c xs (On col k)) (hn : new.length = n * elem.cells) (hz : elem.zero.length = elem.cells) (hb : (l + n) * elem.bytes ≤ 140737488355328) (hb' : l + n ≤ 140737488355328)
    (hk : ∀ a' c' h', Fr (On col k) h h' → Sl h' elem.cells a' (l + n) c' (xs ++ new) (On (upd col h.size k) k) → K a' (l + n) c' h') :
    AppendP elem e a l c n new h K := by
  refine append_own s hn hz hb hb' fun a' c' h' f s' => hk a' c' h' f (s'.mono fun b hb => ?_)
  unfold On upd
  split
  · rcases hb with hb | hb
    · exact hb
    · omega
  · rfl
theorem Sl.get {h : Heap} {ec l c : Nat} {a : Option Addr} {xs : List Value} {F : Nat → Prop} (s : Sl h ec a l c xs F) (hl : 0 < l) : ∃ p, a = some p ∧ Cells h p xs := by
  cases a with
  | none => exact absurd s.2.1 (by omega)
  | some p => exact ⟨p, rfl, s.cells⟩
/-- part i of a row of equal parts -/
theorem flat_part {α : Type} (f : α → List Value) (w : Nat) : ∀ (xs : List α), (∀ x ∈ xs, (f x).length = w) → ∀ (i : Nat) (hi : i < xs.length), ((xs.flatMap f).drop (i * w)).take w = f xs[i] := by
  intro xs
  induction xs with
  | nil => intro _ i hi; exact absurd hi (by simp)
  | cons x r ih =>
    intro hw i hi
    have hx := hw x (List.mem_cons_self ..)
    rw [List.flatMap_cons]
    cases i with
    | zero => rw [Nat.zero_mul, List.drop_zero, ← hx, List.take_left]; rfl
    | succ i =>
      rw [Nat.add_mul, Nat.one_mul, Nat.add_comm, ← List.drop_drop, ← hx, List.drop_left, hx]
      exact ih (fun y hy => hw y (List.mem_cons_of_mem _ hy)) i (by simpa using hi)
theorem flat_length {α : Type} (f : α → List Value) (w : Nat) : ∀ (xs : List α), (∀ x ∈ xs, (f x).length = w) → (xs.flatMap f).length = xs.length * w := by
  intro xs
  induction xs with
  | nil => intro _; simp
  | cons x r ih =>
    intro hw
    rw [List.flatMap_cons, List.length_append, ih (fun y hy => hw y (List.mem_cons_of_mem _ hy)), hw x (List.mem_cons_self ..), List.length_cons, Nat.add_mul]; omega
theorem Cells.part {h : Heap} {p : Addr} {xs : List Value} (c : Cells h p xs) (o n : Nat) : Cells h (p.add o) ((xs.drop o).take n) := Cells.take (Cells.drop c o) n
theorem Cells.cell {h : Heap} {p : Addr} {xs : List Value} (c : Cells h p xs) {i : Nat} {v : Value} (hv : xs[i]? = some v) : cellOf h (p.add i) = some v := c i v hv
/-- part i of a row is written -/
theorem put_part {α : Type} (f : α → List Value) (w : Nat) (xs : List α) (hw : ∀ x ∈ xs, (f x).length = w) (i : Nat) (hi : i < xs.length) (y : α) (hy : (f y).length = w) :
    put (xs.flatMap f) (i * w) (f y) = (xs.set i y).flatMap f := by
  have hl := flat_length f w xs hw
  have hm : (i + 1) * w ≤ xs.length * w := Nat.mul_le_mul_right _ hi
  rw [Nat.add_mul, Nat.one_mul] at hm
  rw [put_eq _ _ _ (by omega), hy]
  have h1 : (xs.flatMap f).take (i * w) = (xs.take i).flatMap f := by
    conv => lhs; rw [← List.take_append_drop i xs, List.flatMap_append]
    rw [List.take_append_of_le_length]
    · rw [List.take_of_length_le]
      rw [flat_length f w _ (fun x hx => hw x (List.mem_of_mem_take hx)), List.length_take]
      exact Nat.mul_le_mul_right _ (by omega)
    · rw [flat_length f w _ (fun x hx => hw x (List.mem_of_mem_take hx)), List.length_take, Nat.min_eq_left (by omega)]; exact Nat.le_refl _
  have h2 : (xs.flatMap f).drop (i * w + w) = (xs.drop (i + 1)).flatMap f := by
    conv => lhs; rw [← List.take_append_drop (i + 1) xs, List.flatMap_append]
    have : ((xs.take (i + 1)).flatMap f).length = i * w + w := by
      rw [flat_length f w _ (fun x hx => hw x (List.mem_of_mem_take hx)), List.length_take, Nat.min_eq_left (by omega), Nat.add_mul, Nat.one_mul]
    rw [← this, List.drop_left]
  rw [h1, h2, List.set_eq_take_append_cons_drop, if_pos hi, List.flatMap_append, List.flatMap_cons, List.append_assoc]
end Go.Proofs.Ytnbfaokpaiiojaa.Hp
/-
  ONE STEP OF A FORMULA: its lemma.
-/
namespace Go.Proofs.Ytnbfaokpaiiojaa.Hp
open Go Go.Proofs Go.Proofs.Ytnbfaokpaiiojaa.Wx

theorem one2 {a b : Value} (ha : a.oneCell' = true) (hb : b.oneCell' = true) : ∀ v ∈ [a, b], v.oneCell' = true := by
  intro v hv; rcases List.mem_cons.mp hv with rfl | hv
  · exact ha
  · rw [List.mem_singleton.mp hv]; exact hb
theorem os {α : Type} {a : α} {k : α → Prop} (h : k a) : onSome (some a) k := h
theorem ct {c : Bool} {A B : Prop} (h : c = true) (a : A) : bif c then A else B := by subst h; exact a
theorem cf {c : Bool} {A B : Prop} (h : c = false) (b : B) : bif c then A else B := by subst h; exact b
theorem cs {c : Bool} {A B : Prop} (a : c = true → A) (b : c = false → B) : bif c then A else B := by
  cases c
  · exact b rfl
  · exact a rfl
theorem cd {p : Prop} [Decidable p] {A B : Prop} (a : p → A) (b : ¬ p → B) : bif decide p then A else B := by
  by_cases h : p
  · rw [decide_eq_true h]; exact a h
  · rw [decide_eq_false h]; exact b h
theorem ce {x y : Int} {A B : Prop} (a : x = y → A) (b : x ≠ y → B) : bif x == y then A else B := by
  by_cases h : x = y
  · exact ct (by simpa using h) (a h)
  · exact cf (by simpa using h) (b h)
theorem cn {x y : Int} {A B : Prop} (a : x ≠ y → A) (b : x = y → B) : bif x != y then A else B := by
  by_cases h : x = y
  · exact cf (by simpa using h) (b h)
  · exact ct (by simpa using h) (a h)
theorem cnot {c : Bool} {A B : Prop} (h : bif c then B else A) : bif !c then A else B := by cases c <;> exact h

/-- h' is h with one block more, that holds cs -/
structure Newly (h h' : Heap) (cs : List Value) : Prop where
  size : h'.size = h.size + 1
  fr : Fr No h h'
  own : Own h' h.size
  rd : rd h' h.size = cs
theorem New.intro {cs : List Value} {t : Nat} {h : Heap} {k : Heap → Prop} (H : ∀ h', Newly h h' cs → k h') : New cs t h k :=
  H _ ⟨size_newO _ _ _, fr_newO _ _, own_newO_at _ _ _, rd_newO_at _ _ _⟩
theorem NewRow.intro {z : List Value} {t : Nat} {cs : List Value} {n : Nat} {h : Heap} {k : Heap → Prop} (hl : cs.length = n) (h1 : ∀ v ∈ cs, v.oneCell' = true) (hz : z.length = n)
    (H : ∀ h', Newly h h' cs → k h') : NewRow z t cs n h k :=
  ⟨stRow_rd (own_newO_at _ _ _) hl h1 (by rw [rd_newO_at, hz]; omega),
    H _ ⟨by rw [size_setRow, size_newO], Fr.setRow (Or.inr (Nat.le_refl _)) (fr_newO _ _), own_setRow (own_newO_at _ _ _), by rw [rd_setRow_at, rd_newO_at, Nat.zero_add, put_all _ _ (by rw [hl, hz])]⟩⟩
/-- h' is h, but for block b, that holds cs -/
structure Did (b : Nat) (h h' : Heap) (cs : List Value) : Prop where
  size : h'.size = h.size
  fr : Fr (fun x => x = b) h h'
  own : Own h' b
  rd : Hp.rd h' b = cs
theorem Put.intro {b o : Nat} {v : Value} {h : Heap} {k : Heap → Prop} (w : Own h b) (hl : o < (rd h b).length) (H : ∀ h', Did b h h' ((rd h b).set o v) → k h') : Put ⟨b, o, none⟩ v h k :=
  ⟨wr_rd w hl, H _ ⟨size_setOf _ _ _, (Fr.refl _ h).setOf (Or.inl rfl), own_setOf w, rd_setOf_at _ _ _ _⟩⟩
theorem Put.add {b o n : Nat} {v : Value} {h : Heap} {k : Heap → Prop} (w : Own h b) (hl : o + n < (rd h b).length) (H : ∀ h', Did b h h' ((rd h b).set (o + n) v) → k h') : Put (Addr.add ⟨b, o, none⟩ n) v h k := by
  rw [add_mk]; exact Put.intro w hl H
theorem PutRow.intro {b o n : Nat} {cs : List Value} {h : Heap} {k : Heap → Prop} (w : Own h b) (hn : cs.length = n) (h1 : ∀ v ∈ cs, v.oneCell' = true) (hl : o + n ≤ (rd h b).length)
    (H : ∀ h', Did b h h' (put (rd h b) o cs) → k h') : PutRow ⟨b, o, none⟩ cs n h k :=
  ⟨stRow_rd w hn h1 hl, H _ ⟨size_setRow _ _ _ _, Fr.setRow (F := fun x => x = b) (Or.inl rfl) (Fr.refl _ h), own_setRow w, by rw [rd_setRow_at, Nat.add_zero]⟩⟩
theorem PutRow.add {b o m n : Nat} {cs : List Value} {h : Heap} {k : Heap → Prop} (w : Own h b) (hn : cs.length = n) (h1 : ∀ v ∈ cs, v.oneCell' = true) (hl : o + m + n ≤ (rd h b).length)
    (H : ∀ h', Did b h h' (put (rd h b) (o + m) cs) → k h') : PutRow (Addr.add ⟨b, o, none⟩ m) cs n h k := by
  rw [add_mk]; exact PutRow.intro w hn h1 hl H
/-- a cell of a block that is known -/
theorem rdc {h : Heap} {b o : Nat} {xs : List Value} {v : Value} (e : rd h b = xs) (hv : xs[o]? = some v) : cellOf h ⟨b, o, none⟩ = some v := by rw [cellOf_rd, e]; exact hv
theorem rda {h : Heap} {b o n : Nat} {xs : List Value} {v : Value} (e : rd h b = xs) (hv : xs[o + n]? = some v) : cellOf h (Addr.add ⟨b, o, none⟩ n) = some v := by rw [add_mk, cellOf_rd, e]; exact hv
theorem cellsa {h : Heap} {b o n : Nat} {xs ys : List Value} (e : rd h b = xs) (hy : (xs.drop (o + n)).take ys.length = ys) : Cells h (Addr.add ⟨b, o, none⟩ n) ys := by rw [add_mk]; exact cells_rd (by rw [e]; exact hy)
theorem cellsAll {h : Heap} {b : Nat} {xs : List Value} (e : rd h b = xs) : Cells h ⟨b, 0, none⟩ xs := cells_rd (by rw [e, List.drop_zero, List.take_length])
/-- a block that is known, as bytes -/
theorem strAll {h : Heap} {b l : Nat} {bs : List UInt8} (e : rd h b = bs.map bv) (hl : bs.length = l) : StrAt h (some ⟨b, 0, none⟩) l bs := ⟨hl, cellsAll e⟩
theorem cs_ite {c : Prop} [Decidable c] {α : Type} {a b : α} {P : α → Prop} (h1 : c → P a) (h2 : ¬ c → P b) : P (if c then a else b) := by split <;> simp_all
theorem Did.at_ {b c : Nat} {h h' : Heap} {cs : List Value} (d : Did b h h' cs) (hc : c < h.size) (hn : c ≠ b) : Hp.rd h' c = Hp.rd h c := d.fr.rd hc hn
theorem Did.ow {b c : Nat} {h h' : Heap} {cs : List Value} (d : Did b h h' cs) (w : Own h c) : Own h' c := by
  by_cases e : c = b
  · subst e; exact d.own
  · exact d.fr.own w.lt e w
theorem Newly.at_ {c : Nat} {h h' : Heap} {cs : List Value} (d : Newly h h' cs) (hc : c < h.size) : Hp.rd h' c = Hp.rd h c := d.fr.rd hc (fun x => x)
theorem Newly.ow {c : Nat} {h h' : Heap} {cs : List Value} (d : Newly h h' cs) (w : Own h c) : Own h' c := d.fr.own w.lt (fun x => x) w
/-- what falls in a loop that counts up -/
theorem falls {n : Int} {m : Nat} (h : n < m) : ((m : Int) - (n + 1)).toNat < ((m : Int) - n).toNat := by omega
/-- frames go on -/
theorem Fr.new {F : Nat → Prop} {h h1 h2 : Heap} {cs : List Value} (f : Fr F h h1) (d : Newly h1 h2 cs) : Fr F h h2 := f.no d.fr
theorem Fr.did {F : Nat → Prop} {h h1 h2 : Heap} {cs : List Value} {b : Nat} (f : Fr F h h1) (d : Did b h1 h2 cs) (hb : b < h.size → F b) : Fr F h h2 := f.trans d.fr (fun _ hl e => e ▸ hb (e ▸ hl))
end Go.Proofs.Ytnbfaokpaiiojaa.Hp
/-
  WRITES INTO ROWS.
-/
namespace Go.Proofs.Ytnbfaokpaiiojaa.Hp
open Go Go.Proofs Go.Proofs.Ytnbfaokpaiiojaa.Wx

theorem drop_put (X new : List Value) (o j n : Nat) (h1 : j + new.length ≤ n) (h2 : o + n ≤ X.length) : ((put X (o + j) new).drop o).take n = put ((X.drop o).take n) j new := by
  apply List.ext_getElem?
  intro i
  have hl : ((X.drop o).take n).length = n := by rw [List.length_take, List.length_drop]; omega
  rw [put_get _ _ _ _ (by rw [hl]; exact h1), List.getElem?_take, List.getElem?_take, List.getElem?_drop, List.getElem?_drop]
  by_cases hi : i < n
  · rw [if_pos hi, if_pos hi, put_get _ _ _ _ (by omega)]
    by_cases hj : j ≤ i ∧ i < j + new.length
    · rw [if_pos (by omega), if_pos hj]; congr 1; omega
    · rw [if_neg (by omega), if_neg hj]
  · rw [if_neg hi, if_neg hi, if_neg (by omega)]
/-- cells are written inside of a row -/
theorem Sl.putAt {h h' : Heap} {ec l c b o j : Nat} {xs new : List Value} {F : Nat → Prop} (s : Sl h ec (some ⟨b, o, none⟩) l c xs F) (hj : j + new.length ≤ l * ec)
    (d : Did b h h' (put (rd h b) (o + j) new)) : Sl h' ec (some ⟨b, o, none⟩) l c (put xs j new) F := by
  obtain ⟨h1, a1, a2, a3, a4, a5, a6⟩ := s
  have hm : l * ec ≤ c * ec := Nat.mul_le_mul_right _ a4
  simp only at a2 a3 a5 a6
  refine ⟨by rw [put_length, h1], rfl, a2, d.own, a4, ?_, ?_⟩
  · simp only [d.rd, put_length, h1]
    rw [drop_put _ _ _ _ _ hj (by omega), ← h1, a5]
  · simp only [d.rd, put_length]; exact a6
theorem Sl.putPart {α : Type} {f : α → List Value} {w : Nat} {h h' : Heap} {l c b o i : Nat} {xs : List α} {y : α} {F : Nat → Prop} (s : Sl h w (some ⟨b, o, none⟩) l c (xs.flatMap f) F)
    (hw : ∀ x ∈ xs, (f x).length = w) (hi : i < xs.length) (hy : (f y).length = w) (d : Did b h h' (put (rd h b) (o + i * w) (f y))) : Sl h' w (some ⟨b, o, none⟩) l c ((xs.set i y).flatMap f) F := by
  have h1 := s.1
  rw [flat_length f w xs hw] at h1
  have : (i + 1) * w ≤ xs.length * w := Nat.mul_le_mul_right _ hi
  rw [Nat.add_mul, Nat.one_mul] at this
  rw [← put_part f w xs hw i hi y hy]
  exact s.putAt (by rw [hy]; omega) d
/-- a row in a new block -/
theorem Sl.made {h h' : Heap} {ec l c : Nat} {xs zs cs : List Value} {F : Nat → Prop} (n : Newly h h' cs) (e : cs = xs ++ zs) (hF : F h.size) (hx : xs.length = l * ec) (hl : l ≤ c) (hz : zs.length = (c - l) * ec) :
    Sl h' ec (some ⟨h.size, 0, none⟩) l c xs F := by
  refine ⟨hx, rfl, hF, n.own, hl, ?_, ?_⟩
  · simp only [n.rd, e, List.drop_zero, List.take_left]
  · simp only [n.rd, e, List.length_append, hx, hz, Nat.zero_add]
    rw [← Nat.add_mul]; exact Nat.mul_le_mul_right _ (by omega)
theorem Sl.wr {h : Heap} {ec l c b o : Nat} {xs : List Value} {F : Nat → Prop} (s : Sl h ec (some ⟨b, o, none⟩) l c xs F) : Own h b ∧ o + l * ec ≤ (rd h b).length := by
  obtain ⟨h1, a1, a2, a3, a4, a5, a6⟩ := s
  have hm : l * ec ≤ c * ec := Nat.mul_le_mul_right _ a4
  simp only at a6
  exact ⟨a3, by omega⟩
theorem Sl.mk {h : Heap} {ec l c : Nat} {p : Addr} {xs : List Value} {F : Nat → Prop} (s : Sl h ec (some p) l c xs F) : p = ⟨p.block, p.off, none⟩ := by
  obtain ⟨b, o, sp⟩ := p
  have : sp = none := s.2.1
  rw [this]
theorem CopyP.intro {elem : TI} {b o n m c : Nat} {src : Option Addr} {new : List Value} {h : Heap} {k : Nat → Heap → Prop} (hn : new.length = min m n * elem.cells) (hs : SlCells h src new) (h1 : ∀ v ∈ new, v.oneCell' = true)
    (w : Own h b) (hl : o + new.length ≤ (rd h b).length) (H : ∀ h', Did b h h' (put (rd h b) o new) → k (min m n) h') : CopyP elem (some ⟨b, o, none⟩) n (.slice src m c) h k := by
  refine ⟨new, hn, hs, h1, ?_, H _ ?_⟩
  · simp only [WrS, Addr.add_zero]; exact wrN_rd w (by omega)
  · simp only [setS, Addr.add_zero]
    exact ⟨size_setRow _ _ _ _, Fr.setRow (F := fun x => x = b) (Or.inl rfl) (Fr.refl _ h), own_setRow w, by rw [rd_setRow_at, Nat.add_zero]⟩
end Go.Proofs.Ytnbfaokpaiiojaa.Hp
