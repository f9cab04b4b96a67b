/-
  GLUE: how much room there is inside of a part.
-/
import Derived.Test.YtpleolmalbdpnaaDoorGlF
namespace Go.Proofs.YtpleolmalbdpnaaDoor.Gl
open Go Go.ChangeShapes Go.WideShapes Go.ChangeAt Go.RowKit Go.Proofs Go.Proofs.YtpleolmalbdpnaaDoor.Wx Go.Proofs.YtpleolmalbdpnaaDoor.Hp

theorem weight_each {H : Type} {P : Program} : ∀ {ts : List TypeId} {ds : List (DataW H)} {j : Nat} {t : TypeId} {d : DataW H} {w : Nat}, ts[j]? = some t → ds[j]? = some d → w ∈ d.weights P t → w ∈ DataW.weightsEach P ts ds
  | [], _, _, _, _, _, h, _, _ => by simp at h
  | _ :: _, [], _, _, _, _, _, h, _ => by simp at h
  | t :: ts, d :: ds, 0, _, _, w, h1, h2, h3 => by
    cases h1
    cases h2
    simp only [DataW.weightsEach]
    exact List.mem_append_left _ h3
  | t :: ts, d :: ds, j + 1, _, _, w, h1, h2, h3 => by
    simp only [DataW.weightsEach]
    exact List.mem_append_right _ (weight_each h1 h2 h3)
theorem weight_all {H : Type} {P : Program} {e : TypeId} {y : DataW H} {w : Nat} (hw : w ∈ y.weights P e) : ∀ {ds : List (DataW H)}, y ∈ ds → w ∈ DataW.weightsAll P e ds
  | [], h => by cases h
  | d :: r, h => by
    simp only [DataW.weightsAll]
    rcases List.mem_cons.mp h with rfl | h
    · exact List.mem_append_left _ hw
    · exact List.mem_append_right _ (weight_all hw h)
theorem weight_part {H : Type} {P : Program} {t : TypeId} {fs : Array Field} {parts : List (DataW H)} {j : Nat} {u : TypeId} {d : DataW H} {w : Nat} (ht : P.underlying t = some (.struct fs)) (h1 : (fs.toList.map (·.type))[j]? = some u) (h2 : parts[j]? = some d) (hw : w ∈ d.weights P u) :
    w ∈ (DataW.agg parts).weights P t := by
  simp only [DataW.weights, ht]
  exact weight_each h1 h2 hw
theorem weight_elem {H : Type} {P : Program} {t e : TypeId} {es sp : List (DataW H)} {y : DataW H} {w : Nat} (ht : P.underlying t = some (.slice e)) (hy : y ∈ es) (hw : w ∈ y.weights P e) : w ∈ (DataW.slice es sp).weights P t := by
  simp only [DataW.weights, ht]
  exact List.mem_cons_of_mem _ (List.mem_append_left _ (weight_all hw hy))
/-- all weights of d are within reach -/
def Light {H : Type} (P : Program) (t : TypeId) (d : DataW H) : Prop := ∀ w ∈ d.weights P t, w ≤ 140737488351232
theorem light_arg {H : Type} {P : Program} {ts : List TypeId} {ds : List (DataW H)} (h : (DataW.weightsEach P ts ds).all (· ≤ reachBytes) = true) {j : Nat} {t : TypeId} {d : DataW H} (h1 : ts[j]? = some t) (h2 : ds[j]? = some d) : Light P t d := by
  intro w hw
  have := of_decide_eq_true (List.all_eq_true.mp h w (weight_each h1 h2 hw))
  have e : reachBytes = 140737488351232 := by decide
  omega
theorem light_room {H : Type} {P : Program} {t e : TypeId} {d : DataW H} {c : Nat} (L : Light P t d) (ht : P.underlying t = some (.slice e)) (r : Room d c) : c * P.bytesOf e ≤ 140737488351232 := by
  rcases r with rfl | ⟨es, sp, rfl, rfl⟩
  · omega
  · refine L _ ?_
    simp only [DataW.weights, ht]
    exact List.mem_cons_self
theorem inner_intsR {H : Type} {enc : TypeId × Value → H} {P : Program} {W : World} {t e n : Nat} {cs : List Value} {y : DataW H × List MemPlace}
    (ht : P.underlying t = some (.slice e)) (he : P.underlying e = some (.int .i64)) (hc : P.cellsOf e = 1) (h : DataW.trod enc P W 0 (fun _ => true) true n t cs = some y) :
    ∃ a l c, ∃ ns : List Int, cs = [.slice a l c] ∧ SlCells W.heap a (ns.map fun n => .int .i64 n) ∧ ns.length = l ∧ l ≤ c ∧ Room y.1 c := by
  rcases open_ints ht he hc h with ⟨hcs, hx⟩ | ⟨a, len', cap', zs, hcs, _, hl, hm, hz, hx, hcell, hwz⟩
  · exact ⟨none, 0, 0, [], hcs, rfl, rfl, Nat.le_refl _, Or.inl rfl⟩
  · subst hx
    simp only [if_true] at hz
    refine ⟨_, _, _, zs.take len', hcs, ?_, by rw [List.length_take]; omega, hl, Or.inr ⟨_, _, rfl, by simp [lits]; omega⟩⟩
    intro i u hu
    rw [List.getElem?_map] at hu
    rcases Nat.lt_or_ge i len' with hi | hi
    · rw [List.getElem?_take_of_lt hi, List.getElem?_eq_getElem (by omega)] at hu
      simp only [Option.map_some, Option.some.injEq] at hu
      have := hcell i (by omega)
      simp only [List.getD, List.getElem?_eq_getElem (show i < zs.length by omega), Option.getD_some] at this
      rw [← hu]; exact this
    · rw [List.getElem?_eq_none (by rw [List.length_take]; omega)] at hu; simp at hu
/-- a row inside of a part: each of its own parts with what is known of it -/
theorem inner_rowW {α H : Type} {enc : TypeId × Value → H} {P : Program} {W : World} {t e w n : Nat} {cs : List Value} {y : DataW H × List MemPlace} (f : α → List Value) (Q : DataW H → α → Prop) (hw : ∀ x, (f x).length = w)
    (ht : P.underlying t = some (.slice e)) (hc : P.cellsOf e = w) (h : DataW.trod enc P W 0 (fun _ => true) true n t cs = some y)
    (one : ∀ n cs y, DataW.trod enc P W 0 (fun _ => true) true n e cs = some y → ∃ x, cs = f x ∧ Q y.1 x) :
    ∃ a l c, ∃ xs : List α, cs = [.slice a l c] ∧ SlCells W.heap a (xs.flatMap f) ∧ xs.length = l ∧ l ≤ c ∧ Room y.1 c ∧ ∀ i (hi : i < xs.length), ∃ z, (∀ k ∈ z.weights P e, k ∈ y.1.weights P t) ∧ Q z xs[i] := by
  rcases DataW.trod_slice ht h with ⟨hcs, hx⟩ | ⟨a, len', cap', elems, rest, n, _, hcs, hx, hb, hl, hm, hlen, hel, hsp, hns⟩
  · exact ⟨none, 0, 0, [], hcs, rfl, rfl, Nat.le_refl _, Or.inl rfl, fun i hi => absurd hi (Nat.not_lt_zero _)⟩
  · subst hx
    obtain ⟨hrl, _⟩ := hsp rfl
    obtain ⟨xs, hxl, hxs⟩ := pick_list (p := fun i x => Cells W.heap (a.add ((0 + i) * w)) (f x) ∧ ∃ y ∈ elems.map (·.1), Q y x) len' fun i hi => by
      have h1 := hel i hi
      rw [List.getElem?_eq_getElem (by omega), hc, Option.bind_eq_some_iff] at h1
      obtain ⟨cs, h2, h3⟩ := h1
      obtain ⟨x, rfl, hq⟩ := one _ _ _ h3
      exact ⟨x, by rw [Nat.zero_add]; exact cells_of_world h2, _, List.mem_map.mpr ⟨_, List.getElem_mem (by omega), rfl⟩, hq⟩
    refine ⟨_, _, _, xs, hcs, ?_, hxl, hl, Or.inr ⟨_, _, rfl, by rw [List.length_map, List.length_map]; omega⟩, fun i hi => ?_⟩
    · have := cells_flat xs a 0 (fun x _ => hw x) fun i hi => (hxs i hi).1
      rw [Nat.zero_mul, Addr.add_zero] at this
      exact this
    · obtain ⟨y, hy, hq⟩ := (hxs i hi).2
      exact ⟨y, fun k hk => weight_elem ht hy hk, hq⟩
/-- a row that is an argument -/
theorem open_rowW {α H : Type} {enc : TypeId × Value → H} {P : Program} {W : World} {base : Nat} {t e w : Nat} {v : Value} {d : DataW H} {p : List MemPlace} (f : α → List Value) (Q : DataW H → α → Prop) (hw : ∀ x, (f x).length = w)
    (ht : P.underlying t = some (.slice e)) (hc : P.cellsOf e = w) (hval : Value.okWide P W .any base t v) (h : DataW.Trod enc P W 0 (fun _ => true) true t v d p)
    (one : ∀ n cs y, DataW.trod enc P W 0 (fun _ => true) true n e cs = some y → ∃ x, cs = f x ∧ Q y.1 x) :
    ∃ a l c, ∃ xs : List α, v = .slice a l c ∧ SlCells W.heap a (xs.flatMap f) ∧ xs.length = l ∧ l ≤ c ∧ Room d c ∧ ∀ i (hi : i < xs.length), ∃ z, (∀ k ∈ z.weights P e, k ∈ d.weights P t) ∧ Q z xs[i] := by
  obtain ⟨a1, len, cap, rfl⟩ := okWide_slice ht hval
  obtain ⟨fuel, hf⟩ := h
  obtain ⟨a, l, c, xs, e1, e2, e3, e4, e5, e6⟩ := inner_rowW f Q hw ht hc hf one
  simp [Value.cells] at e1
  obtain ⟨rfl, rfl, rfl⟩ := e1
  exact ⟨_, _, _, xs, rfl, e2, e3, e4, e5, e6⟩
end Go.Proofs.YtpleolmalbdpnaaDoor.Gl
