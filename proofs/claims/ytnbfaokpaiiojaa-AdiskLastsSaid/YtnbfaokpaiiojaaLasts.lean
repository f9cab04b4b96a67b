/-
  THE ROW OF AdiskLasts.
-/
import Derived.Test.YtnbfaokpaiiojaaRows
import Derived.Test.YtnbfaokpaiiojaaGlC
import Derived.Test.YtnbfaokpaiiojaaL3J
namespace Go.Proofs.Ytnbfaokpaiiojaa
open Go Go.ChangeShapes Go.WideShapes Go.ChangeAt Go.RowKit Go.Proofs.Ytnbfaokpaiiojaa.Wx Go.Proofs.Ytnbfaokpaiiojaa.Hp Go.Proofs.Ytnbfaokpaiiojaa.Gl

theorem Try.own : ownKnob Try.prog.godebug = none := by kernel_rfl
theorem Try.laidOut : laidOutB Try.prog = true := by kernel_rfl
theorem Try.cells3 : Try.prog.cellsOf 3 = 1 := by kernel_rfl
theorem Try.cells4 : Try.prog.cellsOf 4 = 1 := by kernel_rfl
theorem Try.cells5 : Try.prog.cellsOf 5 = 1 := by kernel_rfl
theorem Try.cells42 : Try.prog.cellsOf 42 = 3 := by kernel_rfl
theorem Try.bytes42 : Try.prog.bytesOf 42 = 16 := by kernel_rfl

theorem one_ord {H : Type} {enc : TypeId × Value → H} {W : World} (n : Nat) (cs : List Value) (y : DataW H × List MemPlace) (h : DataW.trod enc Try.prog W 0 (fun _ => true) true n 42 cs = some y) : ∃ x : L3.Ord, cs = L3.Ord.cells x := by
  obtain ⟨y0, y1, y2, k, _, hl, h0, h1, h2⟩ := Go.Deep.trod_struct3 Try.underlying42 h
  rw [Try.cells42] at hl
  simp only [Try.cells3, Try.cells4, Try.cells5] at h0 h1 h2
  match cs, hl with
  | [a, b, c], _ =>
    obtain ⟨n0, e0, _, _⟩ := DataW.trod_int Try.underlying3 h0
    obtain ⟨n1, e1, _, w1⟩ := DataW.trod_int Try.underlying5 h1
    obtain ⟨b2, e2, _⟩ := DataW.trod_bool Try.underlying4 h2
    have e0 : a = .int .i64 n0 := by simpa using e0
    have e1 : b = .int .u8 n1 := by simpa using e1
    have e2 : c = .bool b2 := by simpa using e2
    refine ⟨⟨n0, UInt8.ofNat n1.toNat, b2⟩, ?_⟩
    rw [e0, e1, e2, L3.Ord.cells, bv_of w1]

set_option maxRecDepth 100000 in
theorem lasts_lifted (os : Os) (started : os.Started) (H : Type) (enc : TypeId × Value → H) :
    ReturnsInHanded {} Try.checked os 4 .any (Rows.adiskLastsSpec.pre6 enc Try.prog Try.f4 Rows.adiskLastsRow.domain false) (Rows.adiskLastsSpec.post enc Try.prog Try.f4 false true false false) := by
  refine lifted_bool (C := Try.checked) (P := Try.prog) (tb := 4) rfl Try.own started (by kernel_rfl) Try.func4
    (ChangeSpec.witness6 (enc := enc) (C := Try.checked) false ⟨#[], #[.int .i64 0, .slice none 0 0, .bool false], []⟩ 8 (by kernel_rfl) (by kernel_rfl) (by kernel_rfl) (by kernel_rfl))
    Try.laidOut (by kernel_rfl) (by kernel_rfl) Try.underlying4 rfl ?_ ?_
  · intro ds hl
    rw [Try.params4] at hl
    match ds, hl with
    | [_, _, _], _ => exact ⟨rfl, rfl, rfl⟩
  · intro W base args ds ps hval hA hsz
    rw [Try.params4] at hA hval hsz
    obtain ⟨v0, v1, v2, d0, d1, d2, p0, p1, p2, rfl, rfl, rfl, h0, h1, h2⟩ := trodAll_three hA
    obtain ⟨n, rfl, rfl, rfl, wn⟩ := open_int Try.underlying3 (hval 0 3 v0 rfl rfl) h0
    obtain ⟨a, l, c, xs, rfl, B, hx, hlc, room⟩ := open_row (α := L3.Ord) L3.Ord.cells (fun _ => rfl) Try.underlying38 Try.cells42 (hval 1 38 v1 rfl rfl) h1 one_ord
    obtain ⟨b, rfl, rfl, rfl⟩ := open_bool Try.underlying4 (hval 2 4 v2 rfl rfl) h2
    have hm := room_le hsz (j := 1) (t := 38) (e := 42) room rfl rfl Try.underlying38
    rw [Try.bytes42] at hm
    exact L3.AdiskLasts_spec B hx (by omega) true_mk

theorem adiskLasts_holds : Rows.AdiskLastsSaid :=
  OpenClaim.holds_of_wide 4 Try.f4 rfl rfl rfl rfl rfl rfl rfl ⟨rfl, rfl, rfl, rfl, rfl⟩ rfl rfl rfl rfl rfl (by kernel_rfl) Try.func4 (by kernel_rfl)
    (of_decide_eq_true (by kernel_rfl)) (by unfold Func.isWrapper; first | (rw [if_pos (by decide +kernel)]; kernel_rfl) | (rw [if_neg (by decide +kernel)]; exact ⟨rfl, rfl⟩))
    (fun os started H enc _ => lasts_lifted os started H enc)
end Go.Proofs.Ytnbfaokpaiiojaa
