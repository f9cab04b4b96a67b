/-
  A RECORD, A PAIR OF NUMBERS, AS ARGUMENTS.
-/
import Derived.Test.YtnlmieklakolkaaDoorTbl
import Derived.Test.YtnlmieklakolkaaDoorInW
namespace Go.Proofs.YtnlmieklakolkaaDoor
open Go Go.ChangeShapes Go.WideShapes Go.ChangeAt Go.RowKit Go.Proofs.YtnlmieklakolkaaDoor.Wx Go.Proofs.YtnlmieklakolkaaDoor.Hp Go.Proofs.YtnlmieklakolkaaDoor.Gl

theorem Tryd.cellsInode : Tryd.prog.cellsOf 58 = 15 := by kernel_rfl
theorem Tryd.cellsTen : Tryd.prog.cellsOf 56 = 10 := by kernel_rfl
theorem Tryd.cellsTwo : Tryd.prog.cellsOf 59 = 2 := by kernel_rfl
theorem Tryd.cellsInt : Tryd.prog.cellsOf 3 = 1 := by kernel_rfl
/-- an array of numbers -/
theorem ints_arr {H : Type} {enc : TypeId × Value → H} {P : Program} {w : World} {base : Nat} {sp : Nat → Bool} {held : Bool} {fuel : Nat} {t e : TypeId} {n : Nat} {cs : List Value} {y : DataW H × List MemPlace}
    (ht : P.underlying t = some (.array n e)) (he : P.underlying e = some (.int .i64)) (hce : P.cellsOf e = 1) (hct : P.cellsOf t = n)
    (h : DataW.trod enc P w base sp held fuel t cs = some y) : ∃ ns : List Int, cs = Hd.ints ns ∧ ns.length = n := by
  cases fuel with
  | zero => simp [DataW.trod] at h
  | succ fuel =>
    simp only [DataW.trod, ht, hce, hct, Nat.mul_one] at h
    split at h
    · rename_i hl
      obtain ⟨xs, hm, hx⟩ := Option.map_eq_some_iff.1 h
      obtain ⟨ns, hn, hq⟩ := pick_list (p := fun i (x : Int) => cs[i]? = some (.int .i64 x)) n fun i hi => by
        obtain ⟨b, hb, hf⟩ := Lib.mapM_at hm i i (by simp [hi])
        obtain ⟨z, hc, _, _⟩ := DataW.trod_int he hf
        refine ⟨z, ?_⟩
        have := congrArg (·[0]?) hc
        simpa [List.getElem?_take, List.getElem?_drop] using this
      refine ⟨ns, ?_, hn⟩
      apply List.ext_getElem?
      intro i
      by_cases hi : i < n
      · rw [hq i (by omega), Hd.ints, List.getElem?_map, List.getElem?_eq_getElem (by omega)]; rfl
      · have hl : cs.length = n := by simpa using hl
        rw [List.getElem?_eq_none (by omega), List.getElem?_eq_none (by simp [Hd.ints]; omega)]
    · cases h
theorem okWide_array {P : Program} {W : World} {r : Reach} {base : Nat} {t e : TypeId} {n : Nat} {v : Value} (ht : P.underlying t = some (.array n e)) (h : Value.okWide P W r base t v) : ∃ cs, v = .agg cs ∧ cs.size = P.cellsOf t := by
  simp only [Value.okWide, ht] at h
  obtain ⟨cs, h1, h2, _⟩ := h
  exact ⟨cs, h1, h2⟩
set_option maxRecDepth 100000 in
theorem open_inode {H : Type} {enc : TypeId × Value → H} {W : World} {base : Nat} {v : Value} {d : DataW H} {p : List MemPlace} (hval : Value.okWide Tryd.prog W .any base 58 v) (h : DataW.Trod enc Tryd.prog W 0 (fun _ => true) true 58 v d p) :
    ∃ R : List Int, v = .agg ⟨Hd.ints R⟩ ∧ R.length = 15 := by
  obtain ⟨cs, rfl, _⟩ := okWide_struct Tryd.underlying58 hval
  obtain ⟨fuel, hf⟩ := h
  obtain ⟨xs, n, _, _, hl, hlen, hf⟩ := DataW.trod_struct Tryd.underlying58 hf
  rw [Tryd.cellsInode] at hl
  match xs, hlen with
  | [y0, y1, y2, y3, y4, y5], _ =>
    have h0 : DataW.trod enc Tryd.prog W 0 (fun _ => true) true n 3 (List.take (Tryd.prog.cellsOf 3) (List.drop 0 _)) = some y0 := hf 0 _ rfl
    have h1 : DataW.trod enc Tryd.prog W 0 (fun _ => true) true n 3 (List.take (Tryd.prog.cellsOf 3) (List.drop 1 _)) = some y1 := hf 1 _ rfl
    have h2 : DataW.trod enc Tryd.prog W 0 (fun _ => true) true n 3 (List.take (Tryd.prog.cellsOf 3) (List.drop 2 _)) = some y2 := hf 2 _ rfl
    have h3 : DataW.trod enc Tryd.prog W 0 (fun _ => true) true n 56 (List.take (Tryd.prog.cellsOf 56) (List.drop 3 _)) = some y3 := hf 3 _ rfl
    have h4 : DataW.trod enc Tryd.prog W 0 (fun _ => true) true n 3 (List.take (Tryd.prog.cellsOf 3) (List.drop 13 _)) = some y4 := hf 4 _ rfl
    have h5 : DataW.trod enc Tryd.prog W 0 (fun _ => true) true n 3 (List.take (Tryd.prog.cellsOf 3) (List.drop 14 _)) = some y5 := hf 5 _ rfl
    simp only [Tryd.cellsInt, Tryd.cellsTen] at h0 h1 h2 h3 h4 h5
    obtain ⟨cl⟩ := cs
    match cl, hl with
    | [c0, c1, c2, c3, c4, c5, c6, c7, c8, c9, c10, c11, c12, c13, c14], _ =>
      obtain ⟨n0, e0, _, _⟩ := DataW.trod_int Tryd.underlying3 h0
      obtain ⟨n1, e1, _, _⟩ := DataW.trod_int Tryd.underlying3 h1
      obtain ⟨n2, e2, _, _⟩ := DataW.trod_int Tryd.underlying3 h2
      obtain ⟨ns, e3, l3⟩ := ints_arr Tryd.underlying56 Tryd.underlying3 Tryd.cellsInt Tryd.cellsTen h3
      obtain ⟨n4, e4, _, _⟩ := DataW.trod_int Tryd.underlying3 h4
      obtain ⟨n5, e5, _, _⟩ := DataW.trod_int Tryd.underlying3 h5
      have e0 : [c0] = [.int .i64 n0] := e0
      have e1 : [c1] = [.int .i64 n1] := e1
      have e2 : [c2] = [.int .i64 n2] := e2
      have e3 : [c3, c4, c5, c6, c7, c8, c9, c10, c11, c12] = Hd.ints ns := e3
      have e4 : [c13] = [.int .i64 n4] := e4
      have e5 : [c14] = [.int .i64 n5] := e5
      refine ⟨[n0, n1, n2] ++ ns ++ [n4, n5], ?_, by simp [l3]⟩
      have : [c0, c1, c2, c3, c4, c5, c6, c7, c8, c9, c10, c11, c12, c13, c14] = [c0] ++ [c1] ++ [c2] ++ [c3, c4, c5, c6, c7, c8, c9, c10, c11, c12] ++ [c13] ++ [c14] := rfl
      rw [this, e0, e1, e2, e3, e4, e5]
      simp [Hd.ints]
set_option maxRecDepth 100000 in
theorem open_two {H : Type} {enc : TypeId × Value → H} {W : World} {base : Nat} {v : Value} {d : DataW H} {p : List MemPlace} (hval : Value.okWide Tryd.prog W .any base 59 v) (h : DataW.Trod enc Tryd.prog W 0 (fun _ => true) true 59 v d p) :
    ∃ t0 t1 : Int, v = .agg ⟨Hd.ints [t0, t1]⟩ := by
  obtain ⟨cs, rfl, _⟩ := okWide_array Tryd.underlying59 hval
  obtain ⟨fuel, hf⟩ := h
  obtain ⟨ns, e, l⟩ := ints_arr Tryd.underlying59 Tryd.underlying3 Tryd.cellsInt Tryd.cellsTwo hf
  obtain ⟨cl⟩ := cs
  have e : cl = Hd.ints ns := e
  match ns, l with
  | [t0, t1], _ => exact ⟨t0, t1, by rw [e]⟩
/-- what the rows of bolelaw11 list: one table -/
theorem table1 {W : World} (h : laidMetH Tryd.prog [("bole/rec.widths", Rows.laid_bole_rec_widths)] W) : In.Glo W.heap := by
  obtain ⟨ps, ⟨g', t', cs, fuel, p, q, hg', ht', hvar, hd, _, _⟩, _⟩ := h
  obtain rfl := Option.some.inj (Tryd.gWide.symm.trans hg')
  obtain rfl := Option.some.inj (Tryd.tWide.symm.trans ht')
  exact ⟨(rd_var Tryd.gWide hvar).trans (cells_of_bools (zs := Re.widthsL) Tryd.underlying126 Tryd.underlying4 Tryd.cellsBool Tryd.cellsWide hd)⟩
end Go.Proofs.YtnlmieklakolkaaDoor
