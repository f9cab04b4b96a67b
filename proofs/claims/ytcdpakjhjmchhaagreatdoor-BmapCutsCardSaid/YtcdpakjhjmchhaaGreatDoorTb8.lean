/-
  WHAT THE ROWS OF bolelaw10, bolelaw11 AND bolelaw12 LIST: one table; a world that holds it; the arguments' kinds.
-/
import Derived.Test.YtcdpakjhjmchhaaGreatDoorCards
import Derived.Test.YtcdpakjhjmchhaaGreatDoorTie
import Derived.Test.YtcdpakjhjmchhaaGreatDoorGlG
import Derived.Test.YtcdpakjhjmchhaaGreatDoorInW
import Derived.Lib.SmallJoins
namespace Go.Proofs.YtcdpakjhjmchhaaGreatDoor
open Go Go.ChangeShapes Go.WideShapes Go.ChangeAt Go.RowKit Go.Proofs.YtcdpakjhjmchhaaGreatDoor.Wx Go.Proofs.YtcdpakjhjmchhaaGreatDoor.Hp Go.Proofs.YtcdpakjhjmchhaaGreatDoor.Gl

theorem Tryz.own : ownKnob Tryz.prog.godebug = none := by kernel_rfl
theorem Tryz.laidOut : laidOutB Tryz.prog = true := by kernel_rfl
theorem Tryz.cellsBool : Tryz.prog.cellsOf 4 = 1 := by kernel_rfl
theorem Tryz.cellsInt : Tryz.prog.cellsOf 3 = 1 := by kernel_rfl
theorem Tryz.cellsWide : Tryz.prog.cellsOf 253 = 9 := by kernel_rfl
theorem Tryz.gWide : Tryz.prog.globalNamed "bole/rec.widths" = some 0 := by kernel_rfl
theorem Tryz.tWide : (Tryz.prog.globals[0]?).map (·.type) = some 253 := by kernel_rfl
theorem Tryz.bytesInt : Tryz.prog.bytesOf 3 = 8 := by kernel_rfl
/-- what the rows' list gives -/
theorem table1 {W : World} (h : laidMetH Tryz.prog [("bole/rec.widths", Rows.laid_bole_rec_widths)] W) : In.Glo W.heap := by
  obtain ⟨ps, ⟨g', t', cs, fuel, p, q, hg', ht', hvar, hd, _, _⟩, _⟩ := h
  obtain rfl := Option.some.inj (Tryz.gWide.symm.trans hg')
  obtain rfl := Option.some.inj (Tryz.tWide.symm.trans ht')
  exact ⟨(rd_var Tryz.gWide hvar).trans (cells_of_bools (zs := Re.widthsL) Tryz.underlying253 Tryz.underlying4 Tryz.cellsBool Tryz.cellsWide hd)⟩
def layO (cs : List Value) : Obj → Obj
  | .cells _ t frozen => .cells ⟨cs⟩ t frozen
  | o => o
/-- a world for the witness: the table holds what its initialiser lays -/
noncomputable def laidWorld (os : Os) : World :=
  { World.holding Tryz.prog os ⟨#[], #[], []⟩ with heap := ((World.holding Tryz.prog os ⟨#[], #[], []⟩).heap.modify 0 (layO (Re.widthsL.map .bool))) }
/-- an array of numbers -/
theorem ints_arr {H : Type} {enc : TypeId × Value → H} {P : Program} {w : World} {base : Nat} {sp : Nat → Bool} {held : Bool} {fuel : Nat} {t e : TypeId} {n : Nat} {cs : List Value} {y : DataW H × List MemPlace}
    (ht : P.underlying t = some (.array n e)) (he : P.underlying e = some (.int .i64)) (hce : P.cellsOf e = 1) (hct : P.cellsOf t = n)
    (h : DataW.trod enc P w base sp held fuel t cs = some y) : ∃ ns : List Int, cs = Hd.ints ns ∧ ns.length = n := by
  cases fuel with
  | zero => simp [DataW.trod] at h
  | succ fuel =>
    simp only [DataW.trod, ht, hce, hct, Nat.mul_one] at h
    split at h
    · rename_i hl
      obtain ⟨xs, hm, hx⟩ := Option.map_eq_some_iff.1 h
      obtain ⟨ns, hn, hq⟩ := pick_list (p := fun i (x : Int) => cs[i]? = some (.int .i64 x)) n fun i hi => by
        obtain ⟨b, hb, hf⟩ := Lib.mapM_at hm i i (by simp [hi])
        obtain ⟨z, hc, _, _⟩ := DataW.trod_int he hf
        refine ⟨z, ?_⟩
        have := congrArg (·[0]?) hc
        simpa [List.getElem?_take, List.getElem?_drop] using this
      refine ⟨ns, ?_, hn⟩
      apply List.ext_getElem?
      intro i
      by_cases hi : i < n
      · rw [hq i (by omega), Hd.ints, List.getElem?_map, List.getElem?_eq_getElem (by omega)]; rfl
      · have hl : cs.length = n := by simpa using hl
        rw [List.getElem?_eq_none (by omega), List.getElem?_eq_none (by simp [Hd.ints]; omega)]
    · cases h
theorem one_int {H : Type} {enc : TypeId × Value → H} {W : World} (n : Nat) (cs : List Value) (y : DataW H × List MemPlace) (h : DataW.trod enc Tryz.prog W 0 (fun _ => true) true n 3 cs = some y) : ∃ x : Int, cs = [Value.int .i64 x] := by
  obtain ⟨x, e, _⟩ := DataW.trod_int Tryz.underlying3 h
  exact ⟨x, e⟩
end Go.Proofs.YtcdpakjhjmchhaaGreatDoor
