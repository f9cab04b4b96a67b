/-
  THE ROW OF PathOwn.
-/
import Derived.Test.YtgpkcakanieodaaTb4
import Derived.Test.YtgpkcakanieodaaPaM
namespace Go.Proofs.Ytgpkcakanieodaa
open Go Go.ChangeShapes Go.WideShapes Go.ChangeAt Go.RowKit Go.Proofs.Ytgpkcakanieodaa.Wx Go.Proofs.Ytgpkcakanieodaa.Hp Go.Proofs.Ytgpkcakanieodaa.Gl

set_option maxRecDepth 100000 in
theorem own_lifted (os : Os) (started : os.Started) (H : Type) (enc : TypeId × Value → H) :
    ReturnsInHanded {} Try.checked os 8 .any (Rows.pathOwnSpec.pre6 enc Try.prog Try.f8 Rows.pathOwnRow.domain false) (Rows.pathOwnSpec.post enc Try.prog Try.f8 false true false false) := by
  refine lifted_bool (C := Try.checked) (P := Try.prog) (tb := 4) rfl Try.own started (by kernel_rfl) Try.func8
    (ChangeSpec.witness6 (enc := enc) (C := Try.checked) false ⟨#[], #[.string (mkStr []), .string (mkStr [])], []⟩ 8 (by kernel_rfl) (by kernel_rfl) (by kernel_rfl) (by kernel_rfl))
    Try.laidOut (by kernel_rfl) (by kernel_rfl) Try.underlying4 rfl ?_ ?_
  · intro ds hl
    rw [Try.params8] at hl
    match ds, hl with
    | [_, _], _ => exact ⟨rfl, rfl, rfl⟩
  · intro W base args ds ps hval hA hsz
    rw [Try.params8] at hA hval hsz
    obtain ⟨v0, v1, d0, d1, p0, p1, rfl, rfl, rfl, h0, h1⟩ := trodAll_two hA
    obtain ⟨s, rfl, rfl⟩ := open_text Try.underlying9 (hval 0 9 v0 rfl rfl) h0
    obtain ⟨t, rfl, rfl⟩ := open_text Try.underlying9 (hval 1 9 v1 rfl rfl) h1
    have m := text_le (light_arg hsz (j := 0) rfl rfl)
    have m1 := text_le (light_arg hsz (j := 1) rfl rfl)
    exact Pa.PathOwn_spec (by omega) (by omega) true_mk

theorem pathOwn_holds : Rows.PathOwnSaid :=
  OpenClaim.holds_of_wide 8 Try.f8 rfl rfl rfl rfl rfl rfl rfl ⟨rfl, rfl, rfl, rfl, rfl⟩ rfl rfl rfl rfl rfl (by kernel_rfl) Try.func8 (by kernel_rfl)
    (of_decide_eq_true (by kernel_rfl)) (by unfold Func.isWrapper; first | (rw [if_pos (by decide +kernel)]; kernel_rfl) | (rw [if_neg (by decide +kernel)]; exact ⟨rfl, rfl⟩))
    (fun os started H enc _ => own_lifted os started H enc)
end Go.Proofs.Ytgpkcakanieodaa
