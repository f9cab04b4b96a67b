/-
  THE ROW OF SpaceLowest.
-/
import Derived.Test.YtgpkcakanieodaaTb4
import Derived.Test.YtgpkcakanieodaaSpcG
namespace Go.Proofs.Ytgpkcakanieodaa
open Go Go.ChangeShapes Go.WideShapes Go.ChangeAt Go.RowKit Go.Proofs.Ytgpkcakanieodaa.Wx Go.Proofs.Ytgpkcakanieodaa.Hp Go.Proofs.Ytgpkcakanieodaa.Gl

theorem Try.cellsInt : Try.prog.cellsOf 3 = 1 := by kernel_rfl
theorem Try.bytesInt : 1 ≤ Try.prog.bytesOf 3 := by decide +kernel
theorem one_int {H : Type} {enc : TypeId × Value → H} {W : World} (n : Nat) (cs : List Value) (y : DataW H × List MemPlace) (h : DataW.trod enc Try.prog W 0 (fun _ => true) true n 3 cs = some y) : ∃ x : Int, cs = [Value.int .i64 x] := by
  obtain ⟨b, e, _, _⟩ := DataW.trod_int Try.underlying3 h
  exact ⟨b, e⟩
set_option maxRecDepth 100000 in
theorem lowest_lifted (os : Os) (started : os.Started) (H : Type) (enc : TypeId × Value → H) :
    ReturnsInHanded {} Try.checked os 3 .any (Rows.spaceLowestSpec.pre6 enc Try.prog Try.f3 Rows.spaceLowestRow.domain false) (Rows.spaceLowestSpec.post enc Try.prog Try.f3 false true false false) := by
  refine lifted_bool (C := Try.checked) (P := Try.prog) (tb := 4) rfl Try.own started (by kernel_rfl) Try.func3
    (ChangeSpec.witness6 (enc := enc) (C := Try.checked) false ⟨#[], #[.int .i64 0, .slice none 0 0], []⟩ 8 (by kernel_rfl) (by kernel_rfl) (by kernel_rfl) (by kernel_rfl))
    Try.laidOut (by kernel_rfl) (by kernel_rfl) Try.underlying4 rfl ?_ ?_
  · intro ds hl
    rw [Try.params3] at hl
    match ds, hl with
    | [_, _], _ => exact ⟨rfl, rfl, rfl⟩
  · intro W base args ds ps hval hA hsz
    rw [Try.params3] at hA hval hsz
    obtain ⟨v0, v1, d0, d1, p0, p1, rfl, rfl, rfl, h0, h1⟩ := trodAll_two hA
    obtain ⟨n, rfl, rfl, rfl, wn⟩ := open_int Try.underlying3 (hval 0 3 v0 rfl rfl) h0
    obtain ⟨a, l, c, xs, rfl, B, hx, hlc, room⟩ := open_row (α := Int) (fun n => [Value.int .i64 n]) (fun _ => rfl) Try.underlying22 Try.cellsInt (hval 1 22 v1 rfl rfl) h1 one_int
    have m1 := room_le hsz (j := 1) (t := 22) (e := 3) room rfl rfl Try.underlying22
    have m2 := Nat.le_trans (Nat.mul_le_mul_left c Try.bytesInt) m1
    rw [flat_map1] at B
    exact Spc.SpaceLowest_spec B hx (by omega) true_mk

theorem spaceLowest_holds : Rows.SpaceLowestSaid :=
  OpenClaim.holds_of_wide 3 Try.f3 rfl rfl rfl rfl rfl rfl rfl ⟨rfl, rfl, rfl, rfl, rfl⟩ rfl rfl rfl rfl rfl (by kernel_rfl) Try.func3 (by kernel_rfl)
    (of_decide_eq_true (by kernel_rfl)) (by unfold Func.isWrapper; first | (rw [if_pos (by decide +kernel)]; kernel_rfl) | (rw [if_neg (by decide +kernel)]; exact ⟨rfl, rfl⟩))
    (fun os started H enc _ => lowest_lifted os started H enc)
end Go.Proofs.Ytgpkcakanieodaa
