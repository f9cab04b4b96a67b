/-
  THE ROW OF PathExact, where what comes in is of bulk at most 1048576.
-/
import Derived.Test.YtgpkcakanieodaaBackP
import Derived.Test.YtgpkcakanieodaaPaJ
namespace Go.Proofs.Ytgpkcakanieodaa
open Go Go.ChangeShapes Go.WideShapes Go.ChangeAt Go.RowKit Go.Proofs.Ytgpkcakanieodaa.Wx Go.Proofs.Ytgpkcakanieodaa.Hp Go.Proofs.Ytgpkcakanieodaa.Gl

set_option maxRecDepth 100000 in
theorem exact_lifted (os : Os) (started : os.Started) (H : Type) (enc : TypeId × Value → H) (F : Stop.Interp) :
    ReturnsInHanded {} Try.checked os 4 .any ((Rows.OpenSpec.upto Rows.pathExactSpec).pre6 enc Try.prog Try.f4 Rows.pathExactUptoRow.domain false) (((Rows.OpenSpec.upto Rows.pathExactSpec).at F).post enc Try.prog Try.f4 false true false false) := by
  refine lifted_upto (C := Try.checked) (P := Try.prog) (s := Rows.pathExactSpec) (tb := 4) rfl Try.own started (by kernel_rfl) Try.func4
    (OpenSpec.witness (enc := enc) (C := Try.checked) (s := Rows.OpenSpec.upto Rows.pathExactSpec) (k := Rows.uptoSmall) rfl false ⟨#[], #[.string (mkStr []), .slice none 0 0], []⟩ 8 (by kernel_rfl) (by kernel_rfl) (by kernel_rfl)
      (x := ([.lit (.string []), .nil], [], [])) (by kernel_rfl) rfl (by kernel_rfl))
    Try.laidOut (by kernel_rfl) (by kernel_rfl) Try.underlying4 rfl ?_ ?_
  · intro ds hl
    rw [Try.params4] at hl
    match ds, hl with
    | [_, _], _ => exact ⟨rfl, rfl, rfl⟩
  · intro W base args ds ps hval hA hsz
    rw [Try.params4] at hA hval
    obtain ⟨v0, v1, d0, d1, p0, p1, rfl, rfl, rfl, h0, h1⟩ := trodAll_two hA
    obtain ⟨s, rfl, rfl⟩ := open_text Try.underlying9 (hval 0 9 v0 rfl rfl) h0
    obtain ⟨a, l, c, xs, rfl, B, hx, hlc, room, hq⟩ := open_rowQ (α := List UInt8) (fun x => [Value.string (mkStr x)]) (fun y x => x.length ≤ Rows.uptoBulk y) (fun _ => rfl) Try.underlying42 Try.cellsText (hval 1 42 v1 rfl rfl) h1 one_text
    rw [flat_map1] at B
    have m0 := room_bulk room
    simp only [Rows.uptoBulkAll, Rows.uptoBulk] at hsz
    have hp : ∀ p ∈ xs, p.length ≤ 1048576 := fun p hp => by
      obtain ⟨i, hi, rfl⟩ := List.mem_iff_getElem.mp hp
      obtain ⟨y, h1, h2⟩ := hq i hi
      omega
    exact Pa.PathExact_spec (by omega) B hx (by omega) hlc hp true_mk

theorem pathExact_holds : Rows.PathExactUptoSaid :=
  OpenClaim.holds_of_cond 4 Try.f4 rfl rfl rfl rfl rfl rfl rfl ⟨rfl, rfl, rfl, rfl, rfl⟩ rfl rfl rfl rfl rfl (by kernel_rfl) Try.func4 (by kernel_rfl)
    (of_decide_eq_true (by kernel_rfl)) (by unfold Func.isWrapper; first | (rw [if_pos (by decide +kernel)]; kernel_rfl) | (rw [if_neg (by decide +kernel)]; exact ⟨rfl, rfl⟩))
    (fun os started H enc _ F => exact_lifted os started H enc F)
end Go.Proofs.Ytgpkcakanieodaa
