/-
  THE ROW AND THE CARD OF SlotsBack.
-/
import Derived.Test.YtgpkcakanieodaaDoorTb3
import Derived.Test.YtgpkcakanieodaaDoorSlF
namespace Go.Proofs.YtgpkcakanieodaaDoor
open Go Go.ChangeShapes Go.WideShapes Go.ChangeAt Go.RowKit Go.Proofs.YtgpkcakanieodaaDoor.Wx Go.Proofs.YtgpkcakanieodaaDoor.Hp Go.Proofs.YtgpkcakanieodaaDoor.Gl

theorem one_int {H : Type} {enc : TypeId × Value → H} {W : World} (n : Nat) (cs : List Value) (y : DataW H × List MemPlace) (h : DataW.trod enc Tryd.prog W 0 (fun _ => true) true n 3 cs = some y) : ∃ x : Int, cs = [Value.int .i64 x] := by
  obtain ⟨x, e, _⟩ := DataW.trod_int Tryd.underlying3 h
  exact ⟨x, e⟩
theorem laid_met (os : Os) : laidMet Tryd.prog Rows.slotsBackRow.laid ((laidWorld os).forCall (fun _ _ => 0) ⟨#[], #[.slice none 0 0, .slice none 0 0], []⟩).memory :=
  laidMet_of_run' 8 (by kernel_rfl) (by kernel_rfl)
theorem reads (os : Os) {H : Type} (enc : TypeId × Value → H) : ∃ places, DataW.whole enc Tryd.prog ((laidWorld os).forCall (fun _ _ => 0) ⟨#[], #[.slice none 0 0, .slice none 0 0], []⟩).memory Tryd.f5.params.toList Rows.slotsBackSpec.vars false #[Value.slice none 0 0, .slice none 0 0].toList 8 = some ([.nil, .nil], [], places) :=
  ⟨[], by kernel_rfl⟩
set_option maxRecDepth 100000 in
theorem back_lifted (os : Os) (started : os.Started) (H : Type) (enc : TypeId × Value → H) (F : Stop.Interp) :
    ReturnsInHanded {} Tryd.checked os 5 .any ((OpenSpec.ofChange Rows.slotsBackSpec).preRow enc Tryd.prog Tryd.f5 Rows.slotsBackRow.domain false Rows.slotsBackRow.laid) (((OpenSpec.ofChange Rows.slotsBackSpec).at F).post enc Tryd.prog Tryd.f5 false true false false) := by
  obtain ⟨places, hx⟩ := reads os enc
  refine lifted_row (C := Tryd.checked) (P := Tryd.prog) (s := Rows.slotsBackSpec) (tb := 4) rfl Tryd.own started (by kernel_rfl) Tryd.func5
    (witness_row_at (enc := enc) (C := Tryd.checked) false (laidWorld os) #[.slice none 0 0, .slice none 0 0] rfl (by kernel_rfl) (by kernel_rfl) (by kernel_rfl)
      (OpenSpec.preRow_of_cond 8 hx (by kernel_rfl) (fun k hk => by cases hk) (by kernel_rfl) (laid_met os)))
    Tryd.laidOut (by kernel_rfl) (by kernel_rfl) Tryd.underlying4 rfl ?_ ?_
  · intro ds hl
    rw [Tryd.params5] at hl
    match ds, hl with
    | [_, _], _ => exact ⟨rfl, rfl, rfl⟩
  · intro W base args ds ps hval hA hsz hL
    rw [Tryd.params5] at hA hval hsz
    obtain ⟨v0, v1, d0, d1, p0, p1, rfl, rfl, rfl, h0, h1⟩ := trodAll_two hA
    obtain ⟨a1, l1, c1, cl, rfl, L, hcl, hlc1, room1⟩ := open_row (α := Ss.Cl) Ss.Cl.v (fun _ => rfl) Tryd.underlying54 Tryd.cellsCell (hval 0 54 v0 rfl rfl) h0 one_cell
    obtain ⟨a2, l2, c2, ns, rfl, G, hns, _, _⟩ := open_row (α := Int) (fun n => [Value.int .i64 n]) (fun _ => rfl) Tryd.underlying55 Tryd.cellsInt (hval 1 55 v1 rfl rfl) h1 one_int
    rw [flat_map1] at G
    have m1 := room_le hsz (j := 0) (t := 54) (e := 58) room1 rfl rfl Tryd.underlying54
    rw [Tryd.bytesCell] at m1
    exact Ss.SlotsBack_spec (tables hL) L hcl (by omega) G hns true_mk
theorem back_said : Rows.SlotsBackSaid :=
  OpenClaim.holds_of_cond 5 Tryd.f5 rfl rfl rfl rfl rfl rfl rfl ⟨rfl, rfl, rfl, rfl, rfl⟩ rfl rfl rfl rfl rfl (by kernel_rfl) Tryd.func5 (by kernel_rfl)
    (of_decide_eq_true (by kernel_rfl)) (by unfold Func.isWrapper; first | (rw [if_pos (by decide +kernel)]; kernel_rfl) | (rw [if_neg (by decide +kernel)]; exact ⟨rfl, rfl⟩))
    (fun os started H enc _ F => by rw [OpenClaim.pre_eq_preRow]; exact back_lifted os started H enc F)
theorem back_plain (f : FuncId) (fn : Func) (hf : Tryd.pinned.checked.prog.funcNamed "bole/bolelaw14.SlotsBack" = some f) (hfn : Tryd.pinned.checked.prog.funcs[f]? = some fn) :
    false = Tryd.pinned.checked.prog.looks [] ∧ ∀ (j : Nat) t, fn.params[j]? = some t → Tryd.pinned.checked.prog.wantsStandIn t = false := by
  obtain rfl : f = 5 := Option.some.inj ((show Tryd.prog.funcNamed "bole/bolelaw14.SlotsBack" = some 5 by kernel_rfl).symm.trans hf) |>.symm
  obtain rfl : fn = Tryd.f5 := (Option.some.inj (Tryd.func5.symm.trans hfn)).symm
  refine ⟨by kernel_rfl, fun j t ht => ?_⟩
  rw [Tryd.params5] at ht
  have := Array.mem_of_getElem? ht
  have : t = 54 ∨ t = 55 := by simpa using this
  rcases this with rfl | rfl
  · exact (show Tryd.prog.wantsStandIn 54 = false by kernel_rfl)
  · exact (show Tryd.prog.wantsStandIn 55 = false by kernel_rfl)
theorem slotsBack_card : Rows.SlotsBackCardSaid :=
  Claim7.holds_tied_plain_at .later [] _ _ _ _ back_said (fun _ h => by cases h) (by kernel_rfl) (fun _ h => by cases h) slotsBack_row_tie rfl ⟨rfl, rfl⟩ (by kernel_rfl) rfl back_plain (by kernel_rfl)
end Go.Proofs.YtgpkcakanieodaaDoor
