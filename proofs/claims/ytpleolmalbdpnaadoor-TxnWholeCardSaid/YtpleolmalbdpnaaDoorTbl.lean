/-
  WHAT THE ROWS OF bolelaw04 AND bolelaw11 LIST: two tables; a world that holds them.
-/
import Derived.Test.YtpleolmalbdpnaaDoorCards
import Derived.Test.YtpleolmalbdpnaaDoorTie
import Derived.Test.YtpleolmalbdpnaaDoorGlG
import Derived.Test.YtpleolmalbdpnaaDoorReA
namespace Go.Proofs.YtpleolmalbdpnaaDoor
open Go Go.ChangeShapes Go.WideShapes Go.ChangeAt Go.RowKit Go.Proofs.YtpleolmalbdpnaaDoor.Wx Go.Proofs.YtpleolmalbdpnaaDoor.Hp Go.Proofs.YtpleolmalbdpnaaDoor.Gl

theorem Tryd.own : ownKnob Tryd.prog.godebug = none := by kernel_rfl
theorem Tryd.laidOut : laidOutB Tryd.prog = true := by kernel_rfl
theorem Tryd.cellsBool : Tryd.prog.cellsOf 4 = 1 := by kernel_rfl
theorem Tryd.cellsByte : Tryd.prog.cellsOf 5 = 1 := by kernel_rfl
theorem Tryd.cellsBytes : Tryd.prog.cellsOf 28 = 1 := by kernel_rfl
theorem Tryd.cellsWord : Tryd.prog.cellsOf 125 = 1 := by kernel_rfl
theorem Tryd.cellsHalf : Tryd.prog.cellsOf 164 = 16 := by kernel_rfl
theorem Tryd.cellsWide : Tryd.prog.cellsOf 148 = 9 := by kernel_rfl
theorem Tryd.gWide : Tryd.prog.globalNamed "bole/rec.widths" = some 0 := by kernel_rfl
theorem Tryd.gHalf : Tryd.prog.globalNamed "bole/sum.half" = some 1 := by kernel_rfl
theorem Tryd.tWide : (Tryd.prog.globals[0]?).map (·.type) = some 148 := by kernel_rfl
theorem Tryd.tHalf : (Tryd.prog.globals[1]?).map (·.type) = some 164 := by kernel_rfl
theorem Tryd.bytesBytes : Tryd.prog.bytesOf 28 = 24 := by kernel_rfl
theorem Tryd.bytesByte : Tryd.prog.bytesOf 5 = 1 := by kernel_rfl

/-- what the row's list gives -/
theorem tables {W : World} (h : laidMetH Tryd.prog [("bole/rec.widths", Rows.laid_bole_rec_widths), ("bole/sum.half", Rows.laid_bole_sum_half)] W) : Re.Glo W.heap := by
  obtain ⟨ps, ⟨g', t', cs, fuel, p, q, hg', ht', hvar, hd, ⟨g2, t2, cs2, fuel2, p2, q2, hg2, ht2, hvar2, hd2, _, _⟩, _⟩, _⟩ := h
  obtain rfl := Option.some.inj (Tryd.gWide.symm.trans hg')
  obtain rfl := Option.some.inj (Tryd.tWide.symm.trans ht')
  obtain rfl := Option.some.inj (Tryd.gHalf.symm.trans hg2)
  obtain rfl := Option.some.inj (Tryd.tHalf.symm.trans ht2)
  refine ⟨?_, ?_⟩
  · exact (rd_var Tryd.gHalf hvar2).trans (Lib.cells_of_tab (zs := Su.halfL) Tryd.underlying164 Tryd.underlying125 Tryd.cellsWord Tryd.cellsHalf hd2)
  · exact (rd_var Tryd.gWide hvar).trans (cells_of_bools (zs := Re.widthsL) Tryd.underlying148 Tryd.underlying4 Tryd.cellsBool Tryd.cellsWide hd)

def layO (cs : List Value) : Obj → Obj
  | .cells _ t frozen => .cells ⟨cs⟩ t frozen
  | o => o
/-- a world for the witness: the tables hold what their initialisers lay -/
noncomputable def laidWorld (os : Os) : World :=
  { World.holding Tryd.prog os ⟨#[], #[], []⟩ with heap := ((World.holding Tryd.prog os ⟨#[], #[], []⟩).heap.modify 0 (layO (Re.widthsL.map .bool))).modify 1 (layO (Su.halfL.map fun n => .int .u32 n)) }
end Go.Proofs.YtpleolmalbdpnaaDoor
