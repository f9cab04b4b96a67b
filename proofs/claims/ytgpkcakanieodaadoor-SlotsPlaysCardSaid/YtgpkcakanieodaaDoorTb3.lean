/-
  WHAT THE ROWS OF bolelaw14 LIST: one table; a world that holds it; the arguments' kinds.
-/
import Derived.Test.YtgpkcakanieodaaDoorCards
import Derived.Test.YtgpkcakanieodaaDoorTie
import Derived.Test.YtgpkcakanieodaaDoorGlF
import Derived.Test.YtgpkcakanieodaaDoorSlE
import Derived.Lib.SmallJoins
namespace Go.Proofs.YtgpkcakanieodaaDoor
open Go Go.ChangeShapes Go.WideShapes Go.ChangeAt Go.RowKit Go.Proofs.YtgpkcakanieodaaDoor.Wx Go.Proofs.YtgpkcakanieodaaDoor.Hp Go.Proofs.YtgpkcakanieodaaDoor.Gl

theorem Tryd.own : ownKnob Tryd.prog.godebug = none := by kernel_rfl
theorem Tryd.laidOut : laidOutB Tryd.prog = true := by kernel_rfl
theorem Tryd.cellsBool : Tryd.prog.cellsOf 4 = 1 := by kernel_rfl
theorem Tryd.cellsByte : Tryd.prog.cellsOf 5 = 1 := by kernel_rfl
theorem Tryd.cellsInt : Tryd.prog.cellsOf 3 = 1 := by kernel_rfl
theorem Tryd.cellsText : Tryd.prog.cellsOf 9 = 1 := by kernel_rfl
theorem Tryd.cellsWide : Tryd.prog.cellsOf 88 = 9 := by kernel_rfl
theorem Tryd.cellsCell : Tryd.prog.cellsOf 58 = 4 := by kernel_rfl
theorem Tryd.cellsEntry : Tryd.prog.cellsOf 30 = 3 := by kernel_rfl
theorem Tryd.cellsTurn : Tryd.prog.cellsOf 62 = 2 := by kernel_rfl
theorem Tryd.cellsOp : Tryd.prog.cellsOf 32 = 6 := by kernel_rfl
theorem Tryd.gWide : Tryd.prog.globalNamed "bole/rec.widths" = some 0 := by kernel_rfl
theorem Tryd.tWide : (Tryd.prog.globals[0]?).map (·.type) = some 88 := by kernel_rfl
theorem Tryd.bytesByte : Tryd.prog.bytesOf 5 = 1 := by kernel_rfl
theorem Tryd.bytesInt : Tryd.prog.bytesOf 3 = 8 := by kernel_rfl
theorem Tryd.bytesCell : Tryd.prog.bytesOf 58 = 40 := by kernel_rfl
theorem Tryd.bytesOp : Tryd.prog.bytesOf 32 = 56 := by kernel_rfl

/-- what the row's list gives -/
theorem tables {W : World} (h : laidMetH Tryd.prog [("bole/rec.widths", Rows.laid_bole_rec_widths)] W) : Re.Glo W.heap := by
  obtain ⟨ps, ⟨g', t', cs, fuel, p, q, hg', ht', hvar, hd, _, _⟩, _⟩ := h
  obtain rfl := Option.some.inj (Tryd.gWide.symm.trans hg')
  obtain rfl := Option.some.inj (Tryd.tWide.symm.trans ht')
  exact ⟨(rd_var Tryd.gWide hvar).trans (cells_of_bools (zs := Re.widthsL) Tryd.underlying88 Tryd.underlying4 Tryd.cellsBool Tryd.cellsWide hd)⟩
def layO (cs : List Value) : Obj → Obj
  | .cells _ t frozen => .cells ⟨cs⟩ t frozen
  | o => o
/-- a world for the witness: the table holds what its initialiser lays -/
noncomputable def laidWorld (os : Os) : World :=
  { World.holding Tryd.prog os ⟨#[], #[], []⟩ with heap := ((World.holding Tryd.prog os ⟨#[], #[], []⟩).heap.modify 0 (layO (Re.widthsL.map .bool))) }
/-- a cell of the laws' arguments -/
theorem one_cell {H : Type} {enc : TypeId × Value → H} {W : World} (n : Nat) (cs : List Value) (y : DataW H × List MemPlace) (h : DataW.trod enc Tryd.prog W 0 (fun _ => true) true n 58 cs = some y) : ∃ x : Ss.Cl, cs = Ss.Cl.v x := by
  obtain ⟨y0, y1, y2, y3, k, _, hl, h0, h1, h2, h3⟩ := Go.Joins.trod_struct4 Tryd.underlying58 h
  rw [Tryd.cellsCell] at hl
  simp only [Tryd.cellsInt, Tryd.cellsText] at h0 h1 h2 h3
  match cs, hl with
  | [a, b, c, d], _ =>
    obtain ⟨n0, e0, _, _⟩ := DataW.trod_int Tryd.underlying3 h0
    obtain ⟨n1, e1, _, _⟩ := DataW.trod_int Tryd.underlying3 h1
    obtain ⟨n2, e2, _, _⟩ := DataW.trod_int Tryd.underlying3 h2
    obtain ⟨s, e3, _, _⟩ := DataW.trod_string Tryd.underlying9 h3
    have e0 : a = .int .i64 n0 := by simpa using e0
    have e1 : b = .int .i64 n1 := by simpa using e1
    have e2 : c = .int .i64 n2 := by simpa using e2
    have e3 : d = .string s := by simpa using e3
    obtain ⟨⟨l⟩⟩ := s
    exact ⟨⟨n0, n1, n2, l⟩, by rw [e0, e1, e2, e3]; rfl⟩
theorem one_entry {H : Type} {enc : TypeId × Value → H} {W : World} (n : Nat) (cs : List Value) (y : DataW H × List MemPlace) (h : DataW.trod enc Tryd.prog W 0 (fun _ => true) true n 30 cs = some y) : ∃ x : Sk.E, cs = Ss.E.v x ∧ x.name.length ≤ maxLen := by
  obtain ⟨y0, y1, y2, k, _, hl, h0, h1, h2⟩ := Go.Deep.trod_struct3 Tryd.underlying30 h
  rw [Tryd.cellsEntry] at hl
  simp only [Tryd.cellsInt, Tryd.cellsText] at h0 h1 h2
  match cs, hl with
  | [a, b, c], _ =>
    obtain ⟨n0, e0, _, _⟩ := DataW.trod_int Tryd.underlying3 h0
    obtain ⟨s, e1, _, hs⟩ := DataW.trod_string Tryd.underlying9 h1
    obtain ⟨n2, e2, _, _⟩ := DataW.trod_int Tryd.underlying3 h2
    have e0 : a = .int .i64 n0 := by simpa using e0
    have e1 : b = .string s := by simpa using e1
    have e2 : c = .int .i64 n2 := by simpa using e2
    obtain ⟨⟨l⟩⟩ := s
    exact ⟨⟨n0, l, n2⟩, by rw [e0, e1, e2]; rfl, hs⟩
set_option maxRecDepth 100000 in
theorem open_turn {H : Type} {enc : TypeId × Value → H} {W : World} {base : Nat} {v : Value} {d : DataW H} {p : List MemPlace} (hval : Value.okWide Tryd.prog W .any base 62 v) (h : DataW.Trod enc Tryd.prog W 0 (fun _ => true) true 62 v d p) :
    ∃ (at_ : Int) (by_ : UInt8), v = .agg ⟨[.int .i64 at_, bv by_]⟩ := by
  obtain ⟨cs, rfl, _⟩ := okWide_struct Tryd.underlying62 hval
  obtain ⟨fuel, hf⟩ := h
  obtain ⟨y0, y1, n, _, hl, h0, h1⟩ := trod_struct2 Tryd.underlying62 hf
  rw [Tryd.cellsTurn] at hl
  simp only [Tryd.cellsInt, Tryd.cellsByte] at h0 h1
  obtain ⟨cl⟩ := cs
  match cl, hl with
  | [a, b], _ =>
    obtain ⟨n0, e0, _, _⟩ := DataW.trod_int Tryd.underlying3 h0
    obtain ⟨n1, e1, _, w1⟩ := DataW.trod_int Tryd.underlying5 h1
    have e0 : a = .int .i64 n0 := by simpa [Value.cells] using e0
    have e1 : b = .int .u8 n1 := by simpa [Value.cells] using e1
    exact ⟨n0, UInt8.ofNat n1.toNat, by rw [e0, e1, bv_of w1]⟩
end Go.Proofs.YtgpkcakanieodaaDoor
