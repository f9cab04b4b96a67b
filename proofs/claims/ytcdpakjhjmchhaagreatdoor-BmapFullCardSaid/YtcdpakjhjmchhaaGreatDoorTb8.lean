/-
  WHAT THE ROWS OF bolelaw10, bolelaw11 AND bolelaw12 LIST: one table; a world that holds it; the arguments' kinds.
-/
import Derived.Test.YtcdpakjhjmchhaaGreatDoorCards
import Derived.Test.YtcdpakjhjmchhaaGreatDoorTie
import Derived.Test.YtcdpakjhjmchhaaGreatDoorGlG
import Derived.Test.YtcdpakjhjmchhaaGreatDoorInW
import Derived.Lib.SmallJoins
namespace Go.Proofs.YtcdpakjhjmchhaaGreatDoor
open Go Go.ChangeShapes Go.WideShapes Go.ChangeAt Go.RowKit Go.Proofs.YtcdpakjhjmchhaaGreatDoor.Wx Go.Proofs.YtcdpakjhjmchhaaGreatDoor.Hp Go.Proofs.YtcdpakjhjmchhaaGreatDoor.Gl

theorem Tryz.own : ownKnob Tryz.prog.godebug = none := by kernel_rfl
theorem Tryz.laidOut : laidOutB Tryz.prog = true := by kernel_rfl
theorem Tryz.cellsBool : Tryz.prog.cellsOf 4 = 1 := by kernel_rfl
theorem Tryz.cellsInt : Tryz.prog.cellsOf 3 = 1 := by kernel_rfl
theorem Tryz.cellsWide : Tryz.prog.cellsOf 253 = 9 := by kernel_rfl
theorem Tryz.gWide : Tryz.prog.globalNamed "bole/rec.widths" = some 0 := by kernel_rfl
theorem Tryz.tWide : (Tryz.prog.globals[0]?).map (·.type) = some 253 := by kernel_rfl
theorem Tryz.bytesInt : Tryz.prog.bytesOf 3 = 8 := by kernel_rfl
/-- what the rows' list gives -/
theorem table1 {W : World} (h : laidMetH Tryz.prog [("bole/rec.widths", Rows.laid_bole_rec_widths)] W) : In.Glo W.heap := by
  obtain ⟨ps, ⟨g', t', cs, fuel, p, q, hg', ht', hvar, hd, _, _⟩, _⟩ := h
  obtain rfl := Option.some.inj (Tryz.gWide.symm.trans hg')
  obtain rfl := Option.some.inj (Tryz.tWide.symm.trans ht')
  exact ⟨(rd_var Tryz.gWide hvar).trans (cells_of_bools (zs := Re.widthsL) Tryz.underlying253 Tryz.underlying4 Tryz.cellsBool Tryz.cellsWide hd)⟩
def layO (cs : List Value) : Obj → Obj
  | .cells _ t frozen => .cells ⟨cs⟩ t frozen
  | o => o
/-- a world for the witness: the table holds what its initialiser lays -/
noncomputable def laidWorld (os : Os) : World :=
  { World.holding Tryz.prog os ⟨#[], #[], []⟩ with heap := ((World.holding Tryz.prog os ⟨#[], #[], []⟩).heap.modify 0 (layO (Re.widthsL.map .bool))) }
end Go.Proofs.YtcdpakjhjmchhaaGreatDoor
