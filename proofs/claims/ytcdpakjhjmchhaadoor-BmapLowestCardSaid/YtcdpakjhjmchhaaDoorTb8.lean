/-
  WHAT THE ROWS OF bolelaw10, bolelaw11 AND bolelaw12 LIST: one table; a world that holds it; the arguments' kinds.
-/
import Derived.Test.YtcdpakjhjmchhaaDoorCards
import Derived.Test.YtcdpakjhjmchhaaDoorTie
import Derived.Test.YtcdpakjhjmchhaaDoorGlG
import Derived.Test.YtcdpakjhjmchhaaDoorInW
import Derived.Lib.SmallJoins
namespace Go.Proofs.YtcdpakjhjmchhaaDoor
open Go Go.ChangeShapes Go.WideShapes Go.ChangeAt Go.RowKit Go.Proofs.YtcdpakjhjmchhaaDoor.Wx Go.Proofs.YtcdpakjhjmchhaaDoor.Hp Go.Proofs.YtcdpakjhjmchhaaDoor.Gl

theorem Tryd.own : ownKnob Tryd.prog.godebug = none := by kernel_rfl
theorem Tryd.laidOut : laidOutB Tryd.prog = true := by kernel_rfl
theorem Tryd.cellsBool : Tryd.prog.cellsOf 4 = 1 := by kernel_rfl
theorem Tryd.cellsInt : Tryd.prog.cellsOf 3 = 1 := by kernel_rfl
theorem Tryd.cellsWide : Tryd.prog.cellsOf 202 = 9 := by kernel_rfl
theorem Tryd.gWide : Tryd.prog.globalNamed "bole/rec.widths" = some 0 := by kernel_rfl
theorem Tryd.tWide : (Tryd.prog.globals[0]?).map (·.type) = some 202 := by kernel_rfl
theorem Tryd.bytesInt : Tryd.prog.bytesOf 3 = 8 := by kernel_rfl
theorem Tryd.cellsInode : Tryd.prog.cellsOf 35 = 15 := by kernel_rfl
theorem Tryd.bytesInode : Tryd.prog.bytesOf 35 = 120 := by kernel_rfl
theorem Tryd.cellsTen : Tryd.prog.cellsOf 33 = 10 := by kernel_rfl
/-- what the rows' list gives -/
theorem table1 {W : World} (h : laidMetH Tryd.prog [("bole/rec.widths", Rows.laid_bole_rec_widths)] W) : In.Glo W.heap := by
  obtain ⟨ps, ⟨g', t', cs, fuel, p, q, hg', ht', hvar, hd, _, _⟩, _⟩ := h
  obtain rfl := Option.some.inj (Tryd.gWide.symm.trans hg')
  obtain rfl := Option.some.inj (Tryd.tWide.symm.trans ht')
  exact ⟨(rd_var Tryd.gWide hvar).trans (cells_of_bools (zs := Re.widthsL) Tryd.underlying202 Tryd.underlying4 Tryd.cellsBool Tryd.cellsWide hd)⟩
def layO (cs : List Value) : Obj → Obj
  | .cells _ t frozen => .cells ⟨cs⟩ t frozen
  | o => o
/-- a world for the witness: the table holds what its initialiser lays -/
noncomputable def laidWorld (os : Os) : World :=
  { World.holding Tryd.prog os ⟨#[], #[], []⟩ with heap := ((World.holding Tryd.prog os ⟨#[], #[], []⟩).heap.modify 0 (layO (Re.widthsL.map .bool))) }
/-- an array of numbers -/
theorem ints_arr {H : Type} {enc : TypeId × Value → H} {P : Program} {w : World} {base : Nat} {sp : Nat → Bool} {held : Bool} {fuel : Nat} {t e : TypeId} {n : Nat} {cs : List Value} {y : DataW H × List MemPlace}
    (ht : P.underlying t = some (.array n e)) (he : P.underlying e = some (.int .i64)) (hce : P.cellsOf e = 1) (hct : P.cellsOf t = n)
    (h : DataW.trod enc P w base sp held fuel t cs = some y) : ∃ ns : List Int, cs = Hd.ints ns ∧ ns.length = n := by
  cases fuel with
  | zero => simp [DataW.trod] at h
  | succ fuel =>
    simp only [DataW.trod, ht, hce, hct, Nat.mul_one] at h
    split at h
    · rename_i hl
      obtain ⟨xs, hm, hx⟩ := Option.map_eq_some_iff.1 h
      obtain ⟨ns, hn, hq⟩ := pick_list (p := fun i (x : Int) => cs[i]? = some (.int .i64 x)) n fun i hi => by
        obtain ⟨b, hb, hf⟩ := Lib.mapM_at hm i i (by simp [hi])
        obtain ⟨z, hc, _, _⟩ := DataW.trod_int he hf
        refine ⟨z, ?_⟩
        have := congrArg (·[0]?) hc
        simpa [List.getElem?_take, List.getElem?_drop] using this
      refine ⟨ns, ?_, hn⟩
      apply List.ext_getElem?
      intro i
      by_cases hi : i < n
      · rw [hq i (by omega), Hd.ints, List.getElem?_map, List.getElem?_eq_getElem (by omega)]; rfl
      · have hl : cs.length = n := by simpa using hl
        rw [List.getElem?_eq_none (by omega), List.getElem?_eq_none (by simp [Hd.ints]; omega)]
    · cases h
set_option maxRecDepth 100000 in
theorem one_inode {H : Type} {enc : TypeId × Value → H} {W : World} (n : Nat) (cs : List Value) (y : DataW H × List MemPlace) (h : DataW.trod enc Tryd.prog W 0 (fun _ => true) true n 35 cs = some y) : ∃ R : List Int, cs = Hd.ints R ∧ R.length = 15 := by
  obtain ⟨xs, n, _, _, hl, hlen, hf⟩ := DataW.trod_struct Tryd.underlying35 h
  rw [Tryd.cellsInode] at hl
  match xs, hlen with
  | [y0, y1, y2, y3, y4, y5], _ =>
    have h0 : DataW.trod enc Tryd.prog W 0 (fun _ => true) true n 3 (List.take (Tryd.prog.cellsOf 3) (List.drop 0 _)) = some y0 := hf 0 _ rfl
    have h1 : DataW.trod enc Tryd.prog W 0 (fun _ => true) true n 3 (List.take (Tryd.prog.cellsOf 3) (List.drop 1 _)) = some y1 := hf 1 _ rfl
    have h2 : DataW.trod enc Tryd.prog W 0 (fun _ => true) true n 3 (List.take (Tryd.prog.cellsOf 3) (List.drop 2 _)) = some y2 := hf 2 _ rfl
    have h3 : DataW.trod enc Tryd.prog W 0 (fun _ => true) true n 33 (List.take (Tryd.prog.cellsOf 33) (List.drop 3 _)) = some y3 := hf 3 _ rfl
    have h4 : DataW.trod enc Tryd.prog W 0 (fun _ => true) true n 3 (List.take (Tryd.prog.cellsOf 3) (List.drop 13 _)) = some y4 := hf 4 _ rfl
    have h5 : DataW.trod enc Tryd.prog W 0 (fun _ => true) true n 3 (List.take (Tryd.prog.cellsOf 3) (List.drop 14 _)) = some y5 := hf 5 _ rfl
    simp only [Tryd.cellsInt, Tryd.cellsTen] at h0 h1 h2 h3 h4 h5
    match cs, hl with
    | [c0, c1, c2, c3, c4, c5, c6, c7, c8, c9, c10, c11, c12, c13, c14], _ =>
      obtain ⟨n0, e0, _, _⟩ := DataW.trod_int Tryd.underlying3 h0
      obtain ⟨n1, e1, _, _⟩ := DataW.trod_int Tryd.underlying3 h1
      obtain ⟨n2, e2, _, _⟩ := DataW.trod_int Tryd.underlying3 h2
      obtain ⟨ns, e3, l3⟩ := ints_arr Tryd.underlying33 Tryd.underlying3 Tryd.cellsInt Tryd.cellsTen h3
      obtain ⟨n4, e4, _, _⟩ := DataW.trod_int Tryd.underlying3 h4
      obtain ⟨n5, e5, _, _⟩ := DataW.trod_int Tryd.underlying3 h5
      have e0 : [c0] = [.int .i64 n0] := e0
      have e1 : [c1] = [.int .i64 n1] := e1
      have e2 : [c2] = [.int .i64 n2] := e2
      have e3 : [c3, c4, c5, c6, c7, c8, c9, c10, c11, c12] = Hd.ints ns := e3
      have e4 : [c13] = [.int .i64 n4] := e4
      have e5 : [c14] = [.int .i64 n5] := e5
      refine ⟨[n0, n1, n2] ++ ns ++ [n4, n5], ?_, by simp [l3]⟩
      have : [c0, c1, c2, c3, c4, c5, c6, c7, c8, c9, c10, c11, c12, c13, c14] = [c0] ++ [c1] ++ [c2] ++ [c3, c4, c5, c6, c7, c8, c9, c10, c11, c12] ++ [c13] ++ [c14] := rfl
      rw [this, e0, e1, e2, e3, e4, e5]
      simp [Hd.ints]
theorem one_int {H : Type} {enc : TypeId × Value → H} {W : World} (n : Nat) (cs : List Value) (y : DataW H × List MemPlace) (h : DataW.trod enc Tryd.prog W 0 (fun _ => true) true n 3 cs = some y) : ∃ x : Int, cs = [Value.int .i64 x] := by
  obtain ⟨x, e, _⟩ := DataW.trod_int Tryd.underlying3 h
  exact ⟨x, e⟩
end Go.Proofs.YtcdpakjhjmchhaaDoor
