/-
  A PLAN, AS AN ARGUMENT.
-/
import Derived.Test.YtnlmieklakolkaaDoorTbl
import Derived.Test.YtnlmieklakolkaaDoorHdA
namespace Go.Proofs.YtnlmieklakolkaaDoor
open Go Go.ChangeShapes Go.WideShapes Go.ChangeAt Go.RowKit Go.Proofs.YtnlmieklakolkaaDoor.Wx Go.Proofs.YtnlmieklakolkaaDoor.Hp Go.Proofs.YtnlmieklakolkaaDoor.Gl

theorem Tryd.cellsPlan : Tryd.prog.cellsOf 43 = 2 := by kernel_rfl
theorem Tryd.cellsInts : Tryd.prog.cellsOf 22 = 1 := by kernel_rfl
theorem Tryd.cellsInt : Tryd.prog.cellsOf 3 = 1 := by kernel_rfl
set_option maxRecDepth 100000 in
/-- a plan -/
theorem open_plan {H : Type} {enc : TypeId × Value → H} {W : World} {base : Nat} {v : Value} {d : DataW H} {p : List MemPlace} (hval : Value.okWide Tryd.prog W .any base 43 v) (h : DataW.Trod enc Tryd.prog W 0 (fun _ => true) true 43 v d p) :
    ∃ sa sl sc da dl dc, ∃ steps : List Int, ∃ seed : List UInt8, v = .agg ⟨[.slice sa sl sc, .slice da dl dc]⟩ ∧ SlCells W.heap sa (Hd.ints steps) ∧ steps.length = sl ∧ StrAt W.heap da dl seed := by
  obtain ⟨cs, rfl, _⟩ := okWide_struct Tryd.underlying43 hval
  obtain ⟨fuel, hf⟩ := h
  obtain ⟨y0, y1, n, _, hl, h0, h1⟩ := trod_struct2 Tryd.underlying43 hf
  rw [Tryd.cellsPlan] at hl
  simp only [Tryd.cellsInts, Tryd.cellsBytes] at h0 h1
  obtain ⟨cl⟩ := cs
  match cl, hl with
  | [a, b], _ =>
    obtain ⟨sa, sl, sc, steps, e0, S, hs, _, _⟩ := inner_ints Tryd.underlying22 Tryd.underlying3 Tryd.cellsInt h0
    obtain ⟨da, dl, dc, seed, e1, D, hlc, hm⟩ := inner_bytes2 Tryd.underlying26 Tryd.underlying5 Tryd.cellsByte h1
    have e0 : a = .slice sa sl sc := by simpa [Value.cells] using e0
    have e1 : b = .slice da dl dc := by simpa [Value.cells] using e1

    exact ⟨sa, sl, sc, da, dl, dc, steps, seed, by rw [e0, e1], S, hs, D⟩
end Go.Proofs.YtnlmieklakolkaaDoor
