/-
  GLUE: slices inside of structs.
-/
import Derived.Test.YtpleolmalbdpnaaDoorGlE
namespace Go.Proofs.YtpleolmalbdpnaaDoor.Gl
open Go Go.ChangeShapes Go.WideShapes Go.ChangeAt Go.RowKit Go.Proofs Go.Proofs.YtpleolmalbdpnaaDoor.Wx Go.Proofs.YtpleolmalbdpnaaDoor.Hp

theorem inner_bytes2 {H : Type} {enc : TypeId × Value → H} {P : Program} {W : World} {t e n : Nat} {cs : List Value} {y : DataW H × List MemPlace}
    (ht : P.underlying t = some (.slice e)) (he : P.underlying e = some (.int .u8)) (hc : P.cellsOf e = 1) (h : DataW.trod enc P W 0 (fun _ => true) true n t cs = some y) :
    ∃ a l c bs, cs = [.slice a l c] ∧ StrAt W.heap a l bs ∧ l ≤ c ∧ c ≤ maxLen := by
  have h0 := h
  obtain ⟨a, l, c, bs, e1, B, hlc, _⟩ := inner_bytes ht he hc h
  refine ⟨a, l, c, bs, e1, B, hlc, ?_⟩
  rcases open_ints ht he hc h0 with ⟨hcs, _⟩ | ⟨a', len', cap', zs, hcs, _, _, hm, _⟩
  · rw [e1] at hcs; simp at hcs; obtain ⟨_, _, rfl⟩ := hcs; exact Nat.zero_le _
  · rw [e1] at hcs; simp at hcs; obtain ⟨_, _, rfl⟩ := hcs; exact hm
theorem inner_ints {H : Type} {enc : TypeId × Value → H} {P : Program} {W : World} {t e n : Nat} {cs : List Value} {y : DataW H × List MemPlace}
    (ht : P.underlying t = some (.slice e)) (he : P.underlying e = some (.int .i64)) (hc : P.cellsOf e = 1) (h : DataW.trod enc P W 0 (fun _ => true) true n t cs = some y) :
    ∃ a l c, ∃ ns : List Int, cs = [.slice a l c] ∧ SlCells W.heap a (ns.map fun n => .int .i64 n) ∧ ns.length = l ∧ l ≤ c ∧ c ≤ maxLen := by
  rcases open_ints ht he hc h with ⟨hcs, hx⟩ | ⟨a, len', cap', zs, hcs, _, hl, hm, hz, hx, hcell, hwz⟩
  · exact ⟨none, 0, 0, [], hcs, rfl, rfl, Nat.le_refl _, Nat.zero_le _⟩
  · simp only [if_true] at hz
    refine ⟨_, _, _, zs.take len', hcs, ?_, by rw [List.length_take]; omega, hl, hm⟩
    intro i u hu
    rw [List.getElem?_map] at hu
    rcases Nat.lt_or_ge i len' with hi | hi
    · rw [List.getElem?_take_of_lt hi, List.getElem?_eq_getElem (by omega)] at hu
      simp only [Option.map_some, Option.some.injEq] at hu
      have := hcell i (by omega)
      simp only [List.getD, List.getElem?_eq_getElem (show i < zs.length by omega), Option.getD_some] at this
      rw [← hu]; exact this
    · rw [List.getElem?_eq_none (by rw [List.length_take]; omega)] at hu; simp at hu
end Go.Proofs.YtpleolmalbdpnaaDoor.Gl
