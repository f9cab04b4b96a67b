/-
  THE ROW OF SpaceRefused.
-/
import Derived.Test.YtpleolmalbdpnaaTb4
import Derived.Test.YtpleolmalbdpnaaSpcQ
namespace Go.Proofs.Ytpleolmalbdpnaa
open Go Go.ChangeShapes Go.WideShapes Go.ChangeAt Go.RowKit Go.Proofs.Ytpleolmalbdpnaa.Wx Go.Proofs.Ytpleolmalbdpnaa.Hp Go.Proofs.Ytpleolmalbdpnaa.Gl

set_option maxRecDepth 100000 in
theorem refused_lifted (os : Os) (started : os.Started) (H : Type) (enc : TypeId × Value → H) :
    ReturnsInHanded {} Try.checked os 4 .any (Rows.spaceRefusedSpec.pre6 enc Try.prog Try.f4 Rows.spaceRefusedRow.domain false) (Rows.spaceRefusedSpec.post enc Try.prog Try.f4 false true false false) := by
  refine lifted_bool (C := Try.checked) (P := Try.prog) (tb := 4) rfl Try.own started (by kernel_rfl) Try.func4
    (ChangeSpec.witness6 (enc := enc) (C := Try.checked) false ⟨#[], #[.bool false, .int .i64 0], []⟩ 8 (by kernel_rfl) (by kernel_rfl) (by kernel_rfl) (by kernel_rfl))
    Try.laidOut (by kernel_rfl) (by kernel_rfl) Try.underlying4 rfl ?_ ?_
  · intro ds hl
    rw [Try.params4] at hl
    match ds, hl with
    | [_, _], _ => exact ⟨rfl, rfl, rfl⟩
  · intro W base args ds ps hval hA hsz
    rw [Try.params4] at hA hval hsz
    obtain ⟨v0, v1, d0, d1, p0, p1, rfl, rfl, rfl, h0, h1⟩ := trodAll_two hA
    obtain ⟨b, rfl, rfl, rfl⟩ := open_bool Try.underlying4 (hval 0 4 v0 rfl rfl) h0
    obtain ⟨n, rfl, rfl, rfl, wn⟩ := open_int Try.underlying3 (hval 1 3 v1 rfl rfl) h1
    exact Spc.SpaceRefused_spec true_mk

theorem spaceRefused_holds : Rows.SpaceRefusedSaid :=
  OpenClaim.holds_of_wide 4 Try.f4 rfl rfl rfl rfl rfl rfl rfl ⟨rfl, rfl, rfl, rfl, rfl⟩ rfl rfl rfl rfl rfl (by kernel_rfl) Try.func4 (by kernel_rfl)
    (of_decide_eq_true (by kernel_rfl)) (by unfold Func.isWrapper; first | (rw [if_pos (by decide +kernel)]; kernel_rfl) | (rw [if_neg (by decide +kernel)]; exact ⟨rfl, rfl⟩))
    (fun os started H enc _ => refused_lifted os started H enc)
end Go.Proofs.Ytpleolmalbdpnaa
