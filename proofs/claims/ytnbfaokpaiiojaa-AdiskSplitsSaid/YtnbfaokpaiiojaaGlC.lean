/-
  WHAT AN ARGUMENT IS: rows of parts.
-/
import Derived.Test.YtnbfaokpaiiojaaGlB
import Derived.Deep.Strs
namespace Go.Proofs.Ytnbfaokpaiiojaa.Gl
open Go Go.ChangeShapes Go.WideShapes Go.ChangeAt Go.RowKit Go.Proofs Go.Proofs.Ytnbfaokpaiiojaa.Wx Go.Proofs.Ytnbfaokpaiiojaa.Hp

theorem Cells.append {h : Heap} {a : Addr} {xs ys : List Value} (c : Cells h a xs) (d : Cells h (a.add xs.length) ys) : Cells h a (xs ++ ys) := by
  intro i v hv
  rcases Nat.lt_or_ge i xs.length with hi | hi
  · rw [List.getElem?_append_left hi] at hv; exact c i v hv
  · rw [List.getElem?_append_right hi] at hv
    have := d (i - xs.length) v hv
    by_cases h0 : i - xs.length = 0
    · rw [h0, Addr.add_zero] at this
      rw [show i = xs.length by omega]; exact this
    · rw [Addr.add_add] at this
      rw [show i = xs.length + (i - xs.length) by omega]; exact this
theorem cells_of_world {w : World} {base : Nat} {a : Addr} {n : Nat} {cs : List Value} (h : w.cells? base a n = some cs) : Cells w.heap a cs := by
  obtain ⟨_, h2, h3⟩ := World.cells?_some h
  intro i v hv
  have hi : i < cs.length := (List.getElem?_eq_some_iff.mp hv).1
  have := h3 i (by omega)
  rw [hv] at this
  exact this
theorem cells_flat {α : Type} {h : Heap} {f : α → List Value} {w : Nat} : ∀ (xs : List α) (a : Addr) (k : Nat), (∀ x ∈ xs, (f x).length = w) → (∀ i (hi : i < xs.length), Cells h (a.add ((k + i) * w)) (f xs[i])) → Cells h (a.add (k * w)) (xs.flatMap f) := by
  intro xs
  induction xs with
  | nil => intro a k _ _; exact Cells.nil h _
  | cons x r ih =>
    intro a k hw hc
    rw [List.flatMap_cons]
    refine Cells.append (hc 0 (by simp)) ?_
    have := ih a (k + 1) (fun y hy => hw y (List.mem_cons_of_mem _ hy)) (fun i hi => by
      have := hc (i + 1) (by simpa using hi)
      rw [show k + 1 + i = k + (i + 1) by omega]; exact this)
    rw [hw x (List.mem_cons_self ..)]
    rw [Nat.add_mul, Nat.one_mul] at this
    have e : (a.add (k * w)).add w = a.add (k * w + w) := by
      by_cases h0 : w = 0
      · subst h0; simp [Addr.add]
      · rw [Addr.add_add]
    rw [e]; exact this
theorem flat_map1 {α : Type} (f : α → Value) (xs : List α) : xs.flatMap (fun b => [f b]) = xs.map f := by
  induction xs with
  | nil => rfl
  | cons x r ih => rw [List.flatMap_cons, ih]; rfl
theorem pick_list {α : Type} {p : Nat → α → Prop} : ∀ n, (∀ i, i < n → ∃ x, p i x) → ∃ xs : List α, xs.length = n ∧ ∀ i (hi : i < xs.length), p i xs[i] := by
  intro n
  induction n with
  | zero => intro _; exact ⟨[], rfl, fun i hi => absurd hi (by simp)⟩
  | succ n ih =>
    intro h
    obtain ⟨xs, hl, hx⟩ := ih fun i hi => h i (by omega)
    obtain ⟨y, hy⟩ := h n (by omega)
    refine ⟨xs ++ [y], by simp [hl], fun i hi => ?_⟩
    rcases Nat.lt_or_ge i xs.length with h1 | h1
    · rw [List.getElem_append_left h1]; exact hx i h1
    · have : i = n := by simp at hi; omega
      subst this
      rw [List.getElem_append_right (by omega)]
      simpa [hl] using hy
theorem open_row {α H : Type} {enc : TypeId × Value → H} {P : Program} {W : World} {base : Nat} {t e w : Nat} {v : Value} {d : DataW H} {p : List MemPlace} (f : α → List Value) (hw : ∀ x, (f x).length = w)
    (ht : P.underlying t = some (.slice e)) (hc : P.cellsOf e = w) (hval : Value.okWide P W .any base t v) (h : DataW.Trod enc P W 0 (fun _ => true) true t v d p)
    (one : ∀ n cs y, DataW.trod enc P W 0 (fun _ => true) true n e cs = some y → ∃ x, cs = f x) :
    ∃ a l c, ∃ xs : List α, v = .slice a l c ∧ SlCells W.heap a (xs.flatMap f) ∧ xs.length = l ∧ l ≤ c ∧ Room d c := by
  obtain ⟨a1, len, cap, rfl⟩ := okWide_slice ht hval
  obtain ⟨fuel, hf⟩ := h
  rcases DataW.trod_slice ht hf with ⟨hcs, hx⟩ | ⟨a, len', cap', elems, rest, n, _, hcs, hx, hb, hl, hm, hlen, hel, hsp, hns⟩
  · simp [Value.cells] at hcs
    obtain ⟨rfl, rfl, rfl⟩ := hcs
    exact ⟨none, 0, 0, [], rfl, rfl, rfl, Nat.le_refl _, Or.inl rfl⟩
  · simp [Value.cells] at hcs
    obtain ⟨rfl, rfl, rfl⟩ := hcs
    simp only [Prod.mk.injEq] at hx
    obtain ⟨rfl, rfl⟩ := hx
    obtain ⟨hrl, _⟩ := hsp rfl
    obtain ⟨xs, hxl, hxs⟩ := pick_list (p := fun i x => Cells W.heap (a.add ((0 + i) * w)) (f x)) len fun i hi => by
      have h1 := hel i hi
      rw [List.getElem?_eq_getElem (by omega), hc, Option.bind_eq_some_iff] at h1
      obtain ⟨cs, h2, h3⟩ := h1
      obtain ⟨x, rfl⟩ := one _ _ _ h3
      exact ⟨x, by rw [Nat.zero_add]; exact cells_of_world h2⟩
    refine ⟨_, _, _, xs, rfl, ?_, hxl, hl, Or.inr ⟨_, _, rfl, by rw [List.length_map, List.length_map]; omega⟩⟩
    have := cells_flat xs a 0 (fun x _ => hw x) hxs
    rw [Nat.zero_mul, Addr.add_zero] at this
    exact this
end Go.Proofs.Ytnbfaokpaiiojaa.Gl
