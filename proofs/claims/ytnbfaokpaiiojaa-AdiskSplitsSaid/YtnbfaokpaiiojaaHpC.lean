/-
  COLOURS: each block of the heap has one; a thing is spoken of by the colours of its blocks. Rows of equal parts.
-/
import Derived.Test.YtnbfaokpaiiojaaHpB
namespace Go.Proofs.Ytnbfaokpaiiojaa.Hp
open Go Go.Proofs Go.Proofs.Ytnbfaokpaiiojaa.Wx

def On (col : Nat → Nat) (k : Nat) : Nat → Prop := fun b => col b = k
/-- the blocks from n on get colour k -/
def upd (col : Nat → Nat) (n k : Nat) : Nat → Nat := fun b => if b < n then col b else k
/-- the same colours below n -/
def Ag (n : Nat) (col col' : Nat → Nat) : Prop := ∀ b, b < n → col' b = col b
/-- no block has a colour of m .. m+5 -/
def Free (h : Heap) (col : Nat → Nat) (m : Nat) : Prop := ∀ b, b < h.size → m ≤ col b → col b ≤ m + 5 → False
theorem Free.new {h : Heap} {col col' : Nat → Nat} {m b : Nat} (f : Free h col m) (g : Ag h.size col col') (h1 : m ≤ col' b) (h2 : col' b ≤ m + 5) : h.size ≤ b := by
  rcases Nat.lt_or_ge b h.size with hb | hb
  · rw [g b hb] at h1 h2; exact (f b hb h1 h2).elim
  · exact hb
theorem Free.upd {h : Heap} {col : Nat → Nat} {m k : Nat} (f : Free h col m) (hk : k < m ∨ m + 5 < k) (h' : Heap) : Free h' (upd col h.size k) m := by
  intro b _ h1 h2
  unfold Hp.upd at h1 h2
  split at h1
  · rename_i hb; rw [if_pos hb] at h2; exact f b hb h1 h2
  · rename_i hb; rw [if_neg hb] at h2; omega
theorem ag_upd (col : Nat → Nat) (n k : Nat) : Ag n col (upd col n k) := fun b hb => if_pos hb
theorem upd_ge {col : Nat → Nat} {n k b : Nat} (h : n ≤ b) : upd col n k b = k := if_neg (by omega)
theorem upd_lt {col : Nat → Nat} {n k b : Nat} (h : b < n) : upd col n k b = col b := if_pos h
theorem Ag.refl (n : Nat) (col : Nat → Nat) : Ag n col col := fun _ _ => rfl
theorem Ag.trans {m n : Nat} {c1 c2 c3 : Nat → Nat} (f : Ag m c1 c2) (g : Ag n c2 c3) (h : m ≤ n) : Ag m c1 c3 := fun b hb => (g b (by omega)).trans (f b hb)
theorem Ag.le {m n : Nat} {c1 c2 : Nat → Nat} (f : Ag n c1 c2) (h : m ≤ n) : Ag m c1 c2 := fun b hb => f b (by omega)

theorem Sl.lt {h : Heap} {ec l c : Nat} {p : Addr} {xs : List Value} {F : Nat → Prop} (s : Sl h ec (some p) l c xs F) : p.block < h.size := s.2.2.2.1.lt
/-- colours may be changed where the heap has no block yet -/
theorem Sl.ag {h : Heap} {ec l c k : Nat} {a : Option Addr} {xs : List Value} {col col' : Nat → Nat} (s : Sl h ec a l c xs (On col k)) (g : Ag h.size col col') : Sl h ec a l c xs (On col' k) := by
  obtain ⟨h1, h2⟩ := s
  refine ⟨h1, ?_⟩
  cases a with
  | none => exact h2
  | some p => obtain ⟨a1, a2, a3, a4⟩ := h2; exact ⟨a1, (g _ a3.lt).trans a2, a3, a4⟩
/-- a thing of colour k stays, where other colours were touched -/
theorem Sl.keep {h h' : Heap} {ec l c k : Nat} {a : Option Addr} {xs : List Value} {F : Nat → Prop} {col col' : Nat → Nat} (s : Sl h ec a l c xs (On col k)) (f : Fr F h h') (g : Ag h.size col col') (hF : ∀ b, col b = k → ¬ F b) : Sl h' ec a l c xs (On col' k) := by
  have s' := Sl.fr f s (fun b _ hb => hF b hb)
  obtain ⟨h1, h2⟩ := s'
  refine ⟨h1, ?_⟩
  cases a with
  | none => exact h2
  | some p => obtain ⟨a1, a2, a3, a4⟩ := h2; exact ⟨a1, (g _ s.lt).trans a2, a3, a4⟩
theorem append_col {elem : TI} {e : Nat} {a : Option Addr} {l c n k : Nat} {xs new : List Value} {h : Heap} {col : Nat → Nat} {K : Option Addr → Nat → Nat → Heap → Prop}
    (s : Sl h elem.cells a l c xs (On col k)) (hn : new.length = n * elem.cells) (hz : elem.zero.length = elem.cells) (hb : (l + n) * elem.bytes ≤ 140737488355328) (hb' : l + n ≤ 140737488355328)
    (hk : ∀ a' c' h', Fr (On col k) h h' → Sl h' elem.cells a' (l + n) c' (xs ++ new) (On (upd col h.size k) k) → K a' (l + n) c' h') :
    AppendP elem e a l c n new h K := by
  refine append_own s hn hz hb hb' fun a' c' h' f s' => hk a' c' h' f (s'.mono fun b hb => ?_)
  unfold On upd
  split
  · rcases hb with hb | hb
    · exact hb
    · omega
  · rfl
theorem Sl.get {h : Heap} {ec l c : Nat} {a : Option Addr} {xs : List Value} {F : Nat → Prop} (s : Sl h ec a l c xs F) (hl : 0 < l) : ∃ p, a = some p ∧ Cells h p xs := by
  cases a with
  | none => exact absurd s.2.1 (by omega)
  | some p => exact ⟨p, rfl, s.cells⟩
/-- part i of a row of equal parts -/
theorem flat_part {α : Type} (f : α → List Value) (w : Nat) : ∀ (xs : List α), (∀ x ∈ xs, (f x).length = w) → ∀ (i : Nat) (hi : i < xs.length), ((xs.flatMap f).drop (i * w)).take w = f xs[i] := by
  intro xs
  induction xs with
  | nil => intro _ i hi; exact absurd hi (by simp)
  | cons x r ih =>
    intro hw i hi
    have hx := hw x (List.mem_cons_self ..)
    rw [List.flatMap_cons]
    cases i with
    | zero => rw [Nat.zero_mul, List.drop_zero, ← hx, List.take_left]; rfl
    | succ i =>
      rw [Nat.add_mul, Nat.one_mul, Nat.add_comm, ← List.drop_drop, ← hx, List.drop_left, hx]
      exact ih (fun y hy => hw y (List.mem_cons_of_mem _ hy)) i (by simpa using hi)
theorem flat_length {α : Type} (f : α → List Value) (w : Nat) : ∀ (xs : List α), (∀ x ∈ xs, (f x).length = w) → (xs.flatMap f).length = xs.length * w := by
  intro xs
  induction xs with
  | nil => intro _; simp
  | cons x r ih =>
    intro hw
    rw [List.flatMap_cons, List.length_append, ih (fun y hy => hw y (List.mem_cons_of_mem _ hy)), hw x (List.mem_cons_self ..), List.length_cons, Nat.add_mul]; omega
theorem Cells.part {h : Heap} {p : Addr} {xs : List Value} (c : Cells h p xs) (o n : Nat) : Cells h (p.add o) ((xs.drop o).take n) := Cells.take (Cells.drop c o) n
theorem Cells.cell {h : Heap} {p : Addr} {xs : List Value} (c : Cells h p xs) {i : Nat} {v : Value} (hv : xs[i]? = some v) : cellOf h (p.add i) = some v := c i v hv
/-- part i of a row is written -/
theorem put_part {α : Type} (f : α → List Value) (w : Nat) (xs : List α) (hw : ∀ x ∈ xs, (f x).length = w) (i : Nat) (hi : i < xs.length) (y : α) (hy : (f y).length = w) :
    put (xs.flatMap f) (i * w) (f y) = (xs.set i y).flatMap f := by
  have hl := flat_length f w xs hw
  have hm : (i + 1) * w ≤ xs.length * w := Nat.mul_le_mul_right _ hi
  rw [Nat.add_mul, Nat.one_mul] at hm
  rw [put_eq _ _ _ (by omega), hy]
  have h1 : (xs.flatMap f).take (i * w) = (xs.take i).flatMap f := by
    conv => lhs; rw [← List.take_append_drop i xs, List.flatMap_append]
    rw [List.take_append_of_le_length]
    · rw [List.take_of_length_le]
      rw [flat_length f w _ (fun x hx => hw x (List.mem_of_mem_take hx)), List.length_take]
      exact Nat.mul_le_mul_right _ (by omega)
    · rw [flat_length f w _ (fun x hx => hw x (List.mem_of_mem_take hx)), List.length_take, Nat.min_eq_left (by omega)]; exact Nat.le_refl _
  have h2 : (xs.flatMap f).drop (i * w + w) = (xs.drop (i + 1)).flatMap f := by
    conv => lhs; rw [← List.take_append_drop (i + 1) xs, List.flatMap_append]
    have : ((xs.take (i + 1)).flatMap f).length = i * w + w := by
      rw [flat_length f w _ (fun x hx => hw x (List.mem_of_mem_take hx)), List.length_take, Nat.min_eq_left (by omega), Nat.add_mul, Nat.one_mul]
    rw [← this, List.drop_left]
  rw [h1, h2, List.set_eq_take_append_cons_drop, if_pos hi, List.flatMap_append, List.flatMap_cons, List.append_assoc]
end Go.Proofs.Ytnbfaokpaiiojaa.Hp
