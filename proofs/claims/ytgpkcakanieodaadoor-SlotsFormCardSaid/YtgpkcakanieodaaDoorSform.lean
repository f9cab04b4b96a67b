/-
  THE ROW AND THE CARD OF SlotsForm.
-/
import Derived.Test.YtgpkcakanieodaaDoorTb3
import Derived.Test.YtgpkcakanieodaaDoorSlE
namespace Go.Proofs.YtgpkcakanieodaaDoor
open Go Go.ChangeShapes Go.WideShapes Go.ChangeAt Go.RowKit Go.Proofs.YtgpkcakanieodaaDoor.Wx Go.Proofs.YtgpkcakanieodaaDoor.Hp Go.Proofs.YtgpkcakanieodaaDoor.Gl

theorem laid_met (os : Os) : laidMet Tryd.prog Rows.slotsFormRow.laid ((laidWorld os).forCall (fun _ _ => 0) ⟨#[], #[.slice none 0 0, .slice none 0 0, .agg #[.int .i64 0, .int .u8 0]], []⟩).memory :=
  laidMet_of_run' 8 (by kernel_rfl) (by kernel_rfl)
theorem reads (os : Os) {H : Type} (enc : TypeId × Value → H) : ∃ places, DataW.whole enc Tryd.prog ((laidWorld os).forCall (fun _ _ => 0) ⟨#[], #[.slice none 0 0, .slice none 0 0, .agg #[.int .i64 0, .int .u8 0]], []⟩).memory Tryd.f6.params.toList Rows.slotsFormSpec.vars false #[Value.slice none 0 0, .slice none 0 0, .agg #[.int .i64 0, .int .u8 0]].toList 8 = some ([.nil, .nil, .agg [.lit (.int .i64 0), .lit (.int .u8 0)]], [], places) :=
  ⟨[], by kernel_rfl⟩
set_option maxRecDepth 100000 in
theorem form_lifted (os : Os) (started : os.Started) (H : Type) (enc : TypeId × Value → H) (F : Stop.Interp) :
    ReturnsInHanded {} Tryd.checked os 6 .any ((OpenSpec.ofChange Rows.slotsFormSpec).preRow enc Tryd.prog Tryd.f6 Rows.slotsFormRow.domain false Rows.slotsFormRow.laid) (((OpenSpec.ofChange Rows.slotsFormSpec).at F).post enc Tryd.prog Tryd.f6 false true false false) := by
  obtain ⟨places, hx⟩ := reads os enc
  refine lifted_row (C := Tryd.checked) (P := Tryd.prog) (s := Rows.slotsFormSpec) (tb := 4) rfl Tryd.own started (by kernel_rfl) Tryd.func6
    (witness_row_at (enc := enc) (C := Tryd.checked) false (laidWorld os) #[.slice none 0 0, .slice none 0 0, .agg #[.int .i64 0, .int .u8 0]] rfl (by kernel_rfl) (by kernel_rfl) (by kernel_rfl)
      (OpenSpec.preRow_of_cond 8 hx (by kernel_rfl) (fun k hk => by cases hk) (by kernel_rfl) (laid_met os)))
    Tryd.laidOut (by kernel_rfl) (by kernel_rfl) Tryd.underlying4 rfl ?_ ?_
  · intro ds hl
    rw [Tryd.params6] at hl
    match ds, hl with
    | [_, _, _], _ => exact ⟨rfl, rfl, rfl⟩
  · intro W base args ds ps hval hA hsz hL
    rw [Tryd.params6] at hA hval hsz
    obtain ⟨v0, v1, v2, d0, d1, d2, p0, p1, p2, rfl, rfl, rfl, h0, h1, h2⟩ := trodAll_three hA
    obtain ⟨a, l, c, bs, rfl, B, hlc, room⟩ := open_bytes Tryd.underlying22 Tryd.underlying5 Tryd.cellsByte (hval 0 22 v0 rfl rfl) h0
    obtain ⟨a1, l1, c1, cl, rfl, L, hcl, hlc1, room1⟩ := open_row (α := Ss.Cl) Ss.Cl.v (fun _ => rfl) Tryd.underlying54 Tryd.cellsCell (hval 1 54 v1 rfl rfl) h1 one_cell
    obtain ⟨at_, by_, rfl⟩ := open_turn (hval 2 62 v2 rfl rfl) h2
    have m0 := room_le hsz (j := 0) (t := 22) (e := 5) room rfl rfl Tryd.underlying22
    have m1 := room_le hsz (j := 1) (t := 54) (e := 58) room1 rfl rfl Tryd.underlying54
    rw [Tryd.bytesByte] at m0
    rw [Tryd.bytesCell] at m1
    exact Ss.SlotsForm_spec (tables hL) B hlc (by omega) L hcl (by omega) true_mk
theorem form_said : Rows.SlotsFormSaid :=
  OpenClaim.holds_of_cond 6 Tryd.f6 rfl rfl rfl rfl rfl rfl rfl ⟨rfl, rfl, rfl, rfl, rfl⟩ rfl rfl rfl rfl rfl (by kernel_rfl) Tryd.func6 (by kernel_rfl)
    (of_decide_eq_true (by kernel_rfl)) (by unfold Func.isWrapper; first | (rw [if_pos (by decide +kernel)]; kernel_rfl) | (rw [if_neg (by decide +kernel)]; exact ⟨rfl, rfl⟩))
    (fun os started H enc _ F => by rw [OpenClaim.pre_eq_preRow]; exact form_lifted os started H enc F)
theorem form_plain (f : FuncId) (fn : Func) (hf : Tryd.pinned.checked.prog.funcNamed "bole/bolelaw14.SlotsForm" = some f) (hfn : Tryd.pinned.checked.prog.funcs[f]? = some fn) :
    false = Tryd.pinned.checked.prog.looks [] ∧ ∀ (j : Nat) t, fn.params[j]? = some t → Tryd.pinned.checked.prog.wantsStandIn t = false := by
  obtain rfl : f = 6 := Option.some.inj ((show Tryd.prog.funcNamed "bole/bolelaw14.SlotsForm" = some 6 by kernel_rfl).symm.trans hf) |>.symm
  obtain rfl : fn = Tryd.f6 := (Option.some.inj (Tryd.func6.symm.trans hfn)).symm
  refine ⟨by kernel_rfl, fun j t ht => ?_⟩
  rw [Tryd.params6] at ht
  have := Array.mem_of_getElem? ht
  have : t = 22 ∨ t = 54 ∨ t = 62 := by simpa using this
  rcases this with rfl | rfl | rfl
  · exact (show Tryd.prog.wantsStandIn 22 = false by kernel_rfl)
  · exact (show Tryd.prog.wantsStandIn 54 = false by kernel_rfl)
  · exact (show Tryd.prog.wantsStandIn 62 = false by kernel_rfl)
theorem slotsForm_card : Rows.SlotsFormCardSaid :=
  Claim7.holds_tied_plain_at .later [] _ _ _ _ form_said (fun _ h => by cases h) (by kernel_rfl) (fun _ h => by cases h) slotsForm_row_tie rfl ⟨rfl, rfl⟩ (by kernel_rfl) rfl form_plain (by kernel_rfl)
end Go.Proofs.YtgpkcakanieodaaDoor
