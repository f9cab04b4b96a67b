/-
  GLUE: texts as arguments.
-/
import Derived.Test.YtpleolmalbdpnaaGlG
namespace Go.Proofs.Ytpleolmalbdpnaa.Gl
open Go Go.ChangeShapes Go.WideShapes Go.ChangeAt Go.RowKit Go.Proofs Go.Proofs.Ytpleolmalbdpnaa.Wx Go.Proofs.Ytpleolmalbdpnaa.Hp

/-- a text -/
theorem open_text {H : Type} {enc : TypeId × Value → H} {P : Program} {W : World} {base t : Nat} {v : Value} {d : DataW H} {p : List MemPlace} (ht : P.underlying t = some .string) (hval : Value.okWide P W .any base t v)
    (h : DataW.Trod enc P W 0 (fun _ => true) true t v d p) : ∃ l : List UInt8, v = .string (mkStr l) ∧ d = .lit (.string l) := by
  obtain ⟨s, rfl⟩ := okWide_string ht hval
  obtain ⟨fuel, hf⟩ := h
  obtain ⟨s', e1, e2, _⟩ := DataW.trod_string ht hf
  have e1 : s = s' := by simpa [Value.cells] using e1
  subst e1
  obtain ⟨⟨l⟩⟩ := s
  exact ⟨l, rfl, congrArg Prod.fst e2⟩
theorem text_le {H : Type} {P : Program} {t : TypeId} {l : List UInt8} (L : Light (H := H) P t (.lit (.string l))) : l.length ≤ 140737488351232 := by
  refine L _ ?_
  simp [DataW.weights]
theorem inner_text {H : Type} {enc : TypeId × Value → H} {P : Program} {W : World} {t n : Nat} {cs : List Value} {y : DataW H × List MemPlace} (ht : P.underlying t = some .string)
    (h : DataW.trod enc P W 0 (fun _ => true) true n t cs = some y) : ∃ l : List UInt8, cs = [.string (mkStr l)] ∧ y.1 = .lit (.string l) := by
  obtain ⟨s, e1, e2, _⟩ := DataW.trod_string ht h
  obtain ⟨⟨l⟩⟩ := s
  exact ⟨l, e1, congrArg Prod.fst e2⟩
end Go.Proofs.Ytpleolmalbdpnaa.Gl
