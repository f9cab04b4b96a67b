/-
  THE ROW OF PathBack, where what comes in is of bulk at most 1048576.
-/
import Derived.Test.YtgpkcakanieodaaTb4
import Derived.Test.YtgpkcakanieodaaPaG
namespace Go.Proofs.Ytgpkcakanieodaa
open Go Go.ChangeShapes Go.WideShapes Go.ChangeAt Go.RowKit Go.Proofs.Ytgpkcakanieodaa.Wx Go.Proofs.Ytgpkcakanieodaa.Hp Go.Proofs.Ytgpkcakanieodaa.Gl

theorem one_text {H : Type} {enc : TypeId × Value → H} {W : World} (n : Nat) (cs : List Value) (y : DataW H × List MemPlace) (h : DataW.trod enc Try.prog W 0 (fun _ => true) true n 9 cs = some y) : ∃ x : List UInt8, cs = [Value.string (mkStr x)] ∧ x.length ≤ Rows.uptoBulk y.1 := by
  obtain ⟨l, e1, e2⟩ := inner_text Try.underlying9 h
  refine ⟨l, e1, ?_⟩
  rw [e2]
  simp only [Rows.uptoBulk]; omega
theorem Try.cellsText : Try.prog.cellsOf 9 = 1 := by kernel_rfl
set_option maxRecDepth 100000 in
theorem back_lifted (os : Os) (started : os.Started) (H : Type) (enc : TypeId × Value → H) (F : Stop.Interp) :
    ReturnsInHanded {} Try.checked os 5 .any ((Rows.OpenSpec.upto Rows.pathBackSpec).pre6 enc Try.prog Try.f5 Rows.pathBackUptoRow.domain false) (((Rows.OpenSpec.upto Rows.pathBackSpec).at F).post enc Try.prog Try.f5 false true false false) := by
  refine lifted_upto (C := Try.checked) (P := Try.prog) (s := Rows.pathBackSpec) (tb := 4) rfl Try.own started (by kernel_rfl) Try.func5
    (OpenSpec.witness (enc := enc) (C := Try.checked) (s := Rows.OpenSpec.upto Rows.pathBackSpec) (k := Rows.uptoSmall) rfl false ⟨#[], #[.slice none 0 0], []⟩ 8 (by kernel_rfl) (by kernel_rfl) (by kernel_rfl)
      (x := ([.nil], [], [])) (by kernel_rfl) rfl (by kernel_rfl))
    Try.laidOut (by kernel_rfl) (by kernel_rfl) Try.underlying4 rfl ?_ ?_
  · intro ds hl
    rw [Try.params5] at hl
    match ds, hl with
    | [_], _ => exact ⟨rfl, rfl, rfl⟩
  · intro W base args ds ps hval hA hsz
    rw [Try.params5] at hA hval
    obtain ⟨v0, d0, rfl, rfl, h0⟩ := trodAll_one hA
    obtain ⟨a, l, c, xs, rfl, B, hx, hlc, room, hq⟩ := open_rowQ (α := List UInt8) (fun x => [Value.string (mkStr x)]) (fun y x => x.length ≤ Rows.uptoBulk y) (fun _ => rfl) Try.underlying42 Try.cellsText (hval 0 42 v0 rfl rfl) h0 one_text
    rw [flat_map1] at B
    have m0 := room_bulk room
    simp only [Rows.uptoBulkAll] at hsz
    have hp : ∀ p ∈ xs, p.length ≤ 1048576 := fun p hp => by
      obtain ⟨i, hi, rfl⟩ := List.mem_iff_getElem.mp hp
      obtain ⟨y, h1, h2⟩ := hq i hi
      omega
    have hs := Pa.slashed_bound xs hp
    have hm : xs.length * (1048576 + 1) ≤ 1048576 * (1048576 + 1) := Nat.mul_le_mul_right _ (by omega)
    exact Pa.PathBack_spec B hx hlc (by omega) (by omega) (fun p h => by have := hp p h; omega) true_mk

theorem pathBack_holds : Rows.PathBackUptoSaid :=
  OpenClaim.holds_of_cond 5 Try.f5 rfl rfl rfl rfl rfl rfl rfl ⟨rfl, rfl, rfl, rfl, rfl⟩ rfl rfl rfl rfl rfl (by kernel_rfl) Try.func5 (by kernel_rfl)
    (of_decide_eq_true (by kernel_rfl)) (by unfold Func.isWrapper; first | (rw [if_pos (by decide +kernel)]; kernel_rfl) | (rw [if_neg (by decide +kernel)]; exact ⟨rfl, rfl⟩))
    (fun os started H enc _ F => back_lifted os started H enc F)
end Go.Proofs.Ytgpkcakanieodaa
