/-
  THE ROW OF AdiskRefused.
-/
import Derived.Test.YtnbfaokpaiiojaaRows
import Derived.Test.YtnbfaokpaiiojaaGlC
import Derived.Test.YtnbfaokpaiiojaaRfd
namespace Go.Proofs.Ytnbfaokpaiiojaa
open Go Go.ChangeShapes Go.WideShapes Go.ChangeAt Go.RowKit Go.Proofs.Ytnbfaokpaiiojaa.Wx Go.Proofs.Ytnbfaokpaiiojaa.Hp Go.Proofs.Ytnbfaokpaiiojaa.Gl

theorem Try.own : ownKnob Try.prog.godebug = none := by kernel_rfl
theorem Try.laidOut : laidOutB Try.prog = true := by kernel_rfl
theorem Try.cells3 : Try.prog.cellsOf 3 = 1 := by kernel_rfl
theorem Try.cells4 : Try.prog.cellsOf 4 = 1 := by kernel_rfl
theorem Try.cells5 : Try.prog.cellsOf 5 = 1 := by kernel_rfl
theorem Try.cells42 : Try.prog.cellsOf 42 = 3 := by kernel_rfl
theorem Try.bytes42 : Try.prog.bytesOf 42 = 16 := by kernel_rfl

theorem one_ord {H : Type} {enc : TypeId × Value → H} {W : World} (n : Nat) (cs : List Value) (y : DataW H × List MemPlace) (h : DataW.trod enc Try.prog W 0 (fun _ => true) true n 42 cs = some y) : ∃ x : L3.Ord, cs = L3.Ord.cells x := by
  obtain ⟨y0, y1, y2, k, _, hl, h0, h1, h2⟩ := Go.Deep.trod_struct3 Try.underlying42 h
  rw [Try.cells42] at hl
  simp only [Try.cells3, Try.cells4, Try.cells5] at h0 h1 h2
  match cs, hl with
  | [a, b, c], _ =>
    obtain ⟨n0, e0, _, _⟩ := DataW.trod_int Try.underlying3 h0
    obtain ⟨n1, e1, _, w1⟩ := DataW.trod_int Try.underlying5 h1
    obtain ⟨b2, e2, _⟩ := DataW.trod_bool Try.underlying4 h2
    have e0 : a = .int .i64 n0 := by simpa using e0
    have e1 : b = .int .u8 n1 := by simpa using e1
    have e2 : c = .bool b2 := by simpa using e2
    refine ⟨⟨n0, UInt8.ofNat n1.toNat, b2⟩, ?_⟩
    rw [e0, e1, e2, L3.Ord.cells, bv_of w1]
theorem one_bool {H : Type} {enc : TypeId × Value → H} {W : World} (n : Nat) (cs : List Value) (y : DataW H × List MemPlace) (h : DataW.trod enc Try.prog W 0 (fun _ => true) true n 4 cs = some y) : ∃ x : Bool, cs = [Value.bool x] := by
  obtain ⟨b, e, _⟩ := DataW.trod_bool Try.underlying4 h
  exact ⟨b, e⟩

set_option maxRecDepth 100000 in
theorem refused_lifted (os : Os) (started : os.Started) (H : Type) (enc : TypeId × Value → H) :
    ReturnsInHanded {} Try.checked os 6 .any (Rows.adiskRefusedSpec.pre6 enc Try.prog Try.f6 Rows.adiskRefusedRow.domain false) (Rows.adiskRefusedSpec.post enc Try.prog Try.f6 false true false false) := by
  refine lifted_bool (C := Try.checked) (P := Try.prog) (tb := 4) rfl Try.own started (by kernel_rfl) Try.func6
    (ChangeSpec.witness6 (enc := enc) (C := Try.checked) false ⟨#[], #[.int .i64 0, .slice none 0 0, .int .i64 0, .int .i64 0], []⟩ 8 (by kernel_rfl) (by kernel_rfl) (by kernel_rfl) (by kernel_rfl))
    Try.laidOut (by kernel_rfl) (by kernel_rfl) Try.underlying4 rfl ?_ ?_
  · intro ds hl
    rw [Try.params6] at hl
    match ds, hl with
    | [_, _, _, _], _ => exact ⟨rfl, rfl, rfl⟩
  · intro W base args ds ps hval hA hsz
    rw [Try.params6] at hA hval hsz
    obtain ⟨v0, v1, v2, v3, d0, d1, d2, d3, p0, p1, p2, p3, rfl, rfl, rfl, h0, h1, h2, h3⟩ := trodAll_four hA
    obtain ⟨n, rfl, rfl, rfl, wn⟩ := open_int Try.underlying3 (hval 0 3 v0 rfl rfl) h0
    obtain ⟨a, l, c, xs, rfl, B, hx, _, _⟩ := open_row (α := L3.Ord) L3.Ord.cells (fun _ => rfl) Try.underlying38 Try.cells42 (hval 1 38 v1 rfl rfl) h1 one_ord
    obtain ⟨i, rfl, rfl, rfl, wi⟩ := open_int Try.underlying3 (hval 2 3 v2 rfl rfl) h2
    obtain ⟨m, rfl, rfl, rfl, wm⟩ := open_int Try.underlying3 (hval 3 3 v3 rfl rfl) h3
    obtain ⟨r0, r1⟩ := int_range wi
    exact L3.AdiskRefused_spec r0 r1 B hx true_mk

theorem adiskRefused_holds : Rows.AdiskRefusedSaid :=
  OpenClaim.holds_of_wide 6 Try.f6 rfl rfl rfl rfl rfl rfl rfl ⟨rfl, rfl, rfl, rfl, rfl⟩ rfl rfl rfl rfl rfl (by kernel_rfl) Try.func6 (by kernel_rfl)
    (of_decide_eq_true (by kernel_rfl)) (by unfold Func.isWrapper; first | (rw [if_pos (by decide +kernel)]; kernel_rfl) | (rw [if_neg (by decide +kernel)]; exact ⟨rfl, rfl⟩))
    (fun os started H enc _ => refused_lifted os started H enc)
end Go.Proofs.Ytnbfaokpaiiojaa
