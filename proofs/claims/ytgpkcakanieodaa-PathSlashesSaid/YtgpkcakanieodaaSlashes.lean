/-
  THE ROW OF PathSlashes.
-/
import Derived.Test.YtgpkcakanieodaaTb4
import Derived.Test.YtgpkcakanieodaaPaH
import Derived.ChangeSame
namespace Go.Proofs.Ytgpkcakanieodaa
open Go Go.ChangeShapes Go.WideShapes Go.ChangeAt Go.RowKit Go.Proofs.Ytgpkcakanieodaa.Wx Go.Proofs.Ytgpkcakanieodaa.Hp Go.Proofs.Ytgpkcakanieodaa.Gl

theorem Try.cellsPut : Try.prog.cellsOf 60 = 2 := by kernel_rfl
theorem Try.bytesPut : 1 ≤ Try.prog.bytesOf 60 := by decide +kernel
set_option maxRecDepth 100000 in
theorem one_put {H : Type} {enc : TypeId × Value → H} {W : World} (n : Nat) (cs : List Value) (y : DataW H × List MemPlace) (h : DataW.trod enc Try.prog W 0 (fun _ => true) true n 60 cs = some y) : ∃ x : Int × Bool, cs = Pa.putV x := by
  obtain ⟨y0, y1, k, hy, hl, h0, h1⟩ := trod_struct2 Try.underlying60 h
  rw [Try.cellsPut] at hl
  have c1 : Try.prog.cellsOf 3 = 1 := by kernel_rfl
  have c2 : Try.prog.cellsOf 4 = 1 := by kernel_rfl
  simp only [c1, c2] at h0 h1
  match cs, hl with
  | [a, b], _ =>
    obtain ⟨n0, e0, _, _⟩ := DataW.trod_int Try.underlying3 h0
    obtain ⟨n1, e1, _⟩ := DataW.trod_bool Try.underlying4 h1
    have e0 : a = .int .i64 n0 := by simpa using e0
    have e1 : b = .bool n1 := by simpa using e1
    exact ⟨(n0, n1), by rw [e0, e1]; rfl⟩
set_option maxRecDepth 100000 in
theorem slashes_lifted (os : Os) (started : os.Started) (H : Type) (enc : TypeId × Value → H) :
    ReturnsInHanded {} Try.checked os 6 .any (Rows.pathSlashesSpec.pre6 enc Try.prog Try.f6 Rows.pathSlashesRow.domain false) (Rows.pathSlashesSpec.post enc Try.prog Try.f6 false true false false) := by
  refine lifted_bool (C := Try.checked) (P := Try.prog) (tb := 4) rfl Try.own started (by kernel_rfl) Try.func6
    (ChangeSpec.witness6 (enc := enc) (C := Try.checked) false ⟨#[], #[.string (mkStr []), .slice none 0 0], []⟩ 8 (by kernel_rfl) (by kernel_rfl) (by kernel_rfl) (by kernel_rfl))
    Try.laidOut (by kernel_rfl) (by kernel_rfl) Try.underlying4 rfl ?_ ?_
  · intro ds hl
    rw [Try.params6] at hl
    match ds, hl with
    | [_, _], _ => exact ⟨rfl, rfl, rfl⟩
  · intro W base args ds ps hval hA hsz
    rw [Try.params6] at hA hval hsz
    obtain ⟨v0, v1, d0, d1, p0, p1, rfl, rfl, rfl, h0, h1⟩ := trodAll_two hA
    obtain ⟨s, rfl, rfl⟩ := open_text Try.underlying9 (hval 0 9 v0 rfl rfl) h0
    have m := text_le (light_arg hsz (j := 0) rfl rfl)
    obtain ⟨a, l, c, xs, rfl, B, hx, hlc, room⟩ := open_row (α := Int × Bool) Pa.putV (fun _ => rfl) Try.underlying58 Try.cellsPut (hval 1 58 v1 rfl rfl) h1 one_put
    have m1 := room_le hsz (j := 1) (t := 58) (e := 60) room rfl rfl Try.underlying58
    have m2 := Nat.le_trans (Nat.mul_le_mul_left c Try.bytesPut) m1
    exact Pa.PathSlashes_spec (by omega) B hx (by omega) true_mk

theorem pathSlashes_holds : Rows.PathSlashesSaid :=
  OpenClaim.holds_of_wide 6 Try.f6 rfl rfl rfl rfl rfl rfl rfl ⟨rfl, rfl, rfl, rfl, rfl⟩ rfl rfl rfl rfl rfl (by kernel_rfl) Try.func6 (by kernel_rfl)
    (of_decide_eq_true (by kernel_rfl)) (by unfold Func.isWrapper; first | (rw [if_pos (by decide +kernel)]; kernel_rfl) | (rw [if_neg (by decide +kernel)]; exact ⟨rfl, rfl⟩))
    (fun os started H enc _ => slashes_lifted os started H enc)
end Go.Proofs.Ytgpkcakanieodaa
