/-
  WHAT THE LAWS OF bolelaw05 ARE HANDED: rows of puts.
-/
import Derived.Test.YtpleolmalbdpnaaDoorTbl
import Derived.Test.YtpleolmalbdpnaaDoorGlG
import Derived.Test.YtpleolmalbdpnaaDoorWkA
namespace Go.Proofs.YtpleolmalbdpnaaDoor
open Go Go.ChangeShapes Go.WideShapes Go.ChangeAt Go.RowKit Go.Proofs.YtpleolmalbdpnaaDoor.Wx Go.Proofs.YtpleolmalbdpnaaDoor.Hp Go.Proofs.YtpleolmalbdpnaaDoor.Gl

theorem Tryd.cellsInt : Tryd.prog.cellsOf 3 = 1 := by kernel_rfl
theorem Tryd.cellsPut5 : Tryd.prog.cellsOf 89 = 2 := by kernel_rfl
theorem Tryd.cellsPuts5 : Tryd.prog.cellsOf 31 = 1 := by kernel_rfl
theorem Tryd.bytesPut5 : Tryd.prog.bytesOf 89 = 16 := by kernel_rfl
theorem Tryd.bytesPuts5 : Tryd.prog.bytesOf 31 = 24 := by kernel_rfl
theorem one_put5 {H : Type} {enc : TypeId × Value → H} {W : World} (n : Nat) (cs : List Value) (y : DataW H × List MemPlace) (h : DataW.trod enc Tryd.prog W 0 (fun _ => true) true n 89 cs = some y) : ∃ x : Wc.Pt, cs = Wc.ptV x ∧ True := by
  obtain ⟨y0, y1, k, _, hl, h0, h1⟩ := trod_struct2 Tryd.underlying89 h
  rw [Tryd.cellsPut5] at hl
  simp only [Tryd.cellsInt, Tryd.cellsByte] at h0 h1
  match cs, hl with
  | [a, b], _ =>
    obtain ⟨n0, e0, _, _⟩ := DataW.trod_int Tryd.underlying3 h0
    obtain ⟨n1, e1, _, w1⟩ := DataW.trod_int Tryd.underlying5 h1
    have e0 : a = .int .i64 n0 := by simpa using e0
    have e1 : b = .int .u8 n1 := by simpa using e1
    exact ⟨(n0, UInt8.ofNat n1.toNat), by rw [e0, e1, Wc.ptV, bv_of w1], trivial⟩
def PutsW {H : Type} (W : World) (d : DataW H) (s : Hd.Sc) : Prop := (∃ ps : List Wc.Pt, SlCells W.heap s.a (ps.flatMap Wc.ptV) ∧ ps.length = s.l) ∧ s.l ≤ s.c ∧ Room d s.c
theorem one_puts {H : Type} {enc : TypeId × Value → H} {W : World} (n : Nat) (cs : List Value) (y : DataW H × List MemPlace) (h : DataW.trod enc Tryd.prog W 0 (fun _ => true) true n 31 cs = some y) : ∃ x : Hd.Sc, cs = [x.v] ∧ PutsW W y.1 x := by
  obtain ⟨a, l, c, xs, e1, e2, e3, e4, e5, _⟩ := inner_rowW (α := Wc.Pt) Wc.ptV (fun _ _ => True) (fun _ => rfl) Tryd.underlying31 Tryd.cellsPut5 h one_put5
  exact ⟨⟨a, l, c⟩, e1, ⟨xs, e2, e3⟩, e4, e5⟩
set_option maxRecDepth 100000 in
theorem open_putss {H : Type} {enc : TypeId × Value → H} {W : World} {base : Nat} {v : Value} {d : DataW H} {p : List MemPlace} (hval : Value.okWide Tryd.prog W .any base 22 v) (h : DataW.Trod enc Tryd.prog W 0 (fun _ => true) true 22 v d p) (L : Light Tryd.prog 22 d) :
    ∃ la ll lc, ∃ ss : List Hd.Sc, ∃ pss : List (List Wc.Pt), v = .slice la ll lc ∧ SlCells W.heap la (ss.map Hd.Sc.v) ∧ ss.length = ll ∧ ss.length ≤ 140737488355328 ∧ pss.length = ss.length ∧
      ∀ i (h1 : i < ss.length) (h2 : i < pss.length), SlCells W.heap ss[i].a (pss[i].flatMap Wc.ptV) ∧ pss[i].length = ss[i].l ∧ ss[i].l ≤ 140737488355328 := by
  obtain ⟨a, l, c, ss, rfl, D, hdl, hlc, r, hq⟩ := open_rowW (α := Hd.Sc) (fun s => [s.v]) (PutsW W) (fun _ => rfl) Tryd.underlying22 Tryd.cellsPuts5 hval h one_puts
  rw [flat_map1] at D
  have w0 := light_room L Tryd.underlying22 r
  rw [Tryd.bytesPuts5] at w0
  obtain ⟨pss, hbl, hbs⟩ := pick_list (p := fun i (ps : List Wc.Pt) => ∀ (hi : i < ss.length), SlCells W.heap ss[i].a (ps.flatMap Wc.ptV) ∧ ps.length = ss[i].l) ss.length fun i hi => by
    obtain ⟨_, _, ⟨b, S, e⟩, _⟩ := hq i hi
    exact ⟨b, fun _ => ⟨S, e⟩⟩
  refine ⟨a, l, c, ss, pss, rfl, D, hdl, by omega, hbl, fun i h1 h2 => ?_⟩
  obtain ⟨s1, s2⟩ := hbs i h2 h1
  obtain ⟨z, hz, _, hlc2, r2⟩ := hq i h1
  have w2 := light_room (fun w hw => L w (hz w hw)) Tryd.underlying31 r2
  rw [Tryd.bytesPut5] at w2
  exact ⟨s1, s2, by omega⟩
end Go.Proofs.YtpleolmalbdpnaaDoor
