/-
  WHAT THE LAWS bolelaw06 AND bolelaw05 ARE HANDED: the arguments' kinds.
-/
import Derived.Test.YtpleolmalbdpnaaDoorTbl
import Derived.Test.YtpleolmalbdpnaaDoorTxC
namespace Go.Proofs.YtpleolmalbdpnaaDoor
open Go Go.ChangeShapes Go.WideShapes Go.ChangeAt Go.RowKit Go.Proofs.YtpleolmalbdpnaaDoor.Wx Go.Proofs.YtpleolmalbdpnaaDoor.Hp Go.Proofs.YtpleolmalbdpnaaDoor.Gl

theorem Tryd.cellsInt : Tryd.prog.cellsOf 3 = 1 := by kernel_rfl
theorem Tryd.cellsPut : Tryd.prog.cellsOf 113 = 2 := by kernel_rfl
/-- a put of the laws' arguments -/
theorem one_put {H : Type} {enc : TypeId × Value → H} {W : World} (n : Nat) (cs : List Value) (y : DataW H × List MemPlace) (h : DataW.trod enc Tryd.prog W 0 (fun _ => true) true n 113 cs = some y) : ∃ x : Txl.Pt, cs = Txl.ptV x := by
  obtain ⟨y0, y1, k, _, hl, h0, h1⟩ := trod_struct2 Tryd.underlying113 h
  rw [Tryd.cellsPut] at hl
  simp only [Tryd.cellsInt, Tryd.cellsByte] at h0 h1
  match cs, hl with
  | [a, b], _ =>
    obtain ⟨n0, e0, _, _⟩ := DataW.trod_int Tryd.underlying3 h0
    obtain ⟨n1, e1, _, w1⟩ := DataW.trod_int Tryd.underlying5 h1
    have e0 : a = .int .i64 n0 := by simpa using e0
    have e1 : b = .int .u8 n1 := by simpa using e1
    exact ⟨(n0, UInt8.ofNat n1.toNat), by rw [e0, e1, Txl.ptV, bv_of w1]⟩
end Go.Proofs.YtpleolmalbdpnaaDoor
