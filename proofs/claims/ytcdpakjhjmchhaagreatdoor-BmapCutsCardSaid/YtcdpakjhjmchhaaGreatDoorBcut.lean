/-
  THE ROW AND THE CARD OF BmapCuts.
-/
import Derived.Test.YtcdpakjhjmchhaaGreatDoorTb9
import Derived.Test.YtcdpakjhjmchhaaGreatDoorBnL
namespace Go.Proofs.YtcdpakjhjmchhaaGreatDoor
open Go Go.ChangeShapes Go.WideShapes Go.ChangeAt Go.RowKit Go.Proofs.YtcdpakjhjmchhaaGreatDoor.Wx Go.Proofs.YtcdpakjhjmchhaaGreatDoor.Hp Go.Proofs.YtcdpakjhjmchhaaGreatDoor.Gl

theorem laid_met (os : Os) : laidMet Tryz.prog Rows.bmapCutsRow.laid ((laidWorld os).forCall (fun _ _ => 0) ⟨#[], #[.agg ⟨[.int .i64 0, .slice none 0 0, .slice none 0 0]⟩, .slice none 0 0, .agg ⟨[.int .i64 0, .int .i64 0]⟩], []⟩).memory :=
  laidMet_of_run' 8 (by kernel_rfl) (by kernel_rfl)
theorem reads (os : Os) {H : Type} (enc : TypeId × Value → H) : ∃ places, DataW.whole enc Tryz.prog ((laidWorld os).forCall (fun _ _ => 0) ⟨#[], #[.agg ⟨[.int .i64 0, .slice none 0 0, .slice none 0 0]⟩, .slice none 0 0, .agg ⟨[.int .i64 0, .int .i64 0]⟩], []⟩).memory Tryz.f6.params.toList Rows.bmapCutsSpec.vars false #[Value.agg ⟨[.int .i64 0, .slice none 0 0, .slice none 0 0]⟩, .slice none 0 0, .agg ⟨[.int .i64 0, .int .i64 0]⟩].toList 8 = some ([.agg [.lit (.int .i64 0), .nil, .nil], .nil, .agg [.lit (.int .i64 0), .lit (.int .i64 0)]], [], places) :=
  ⟨[], by kernel_rfl⟩
set_option maxRecDepth 100000 in
theorem bcut_lifted (os : Os) (started : os.Started) (H : Type) (enc : TypeId × Value → H) (F : Stop.Interp) :
    ReturnsInHanded {} Tryz.checked os 6 .any ((OpenSpec.ofChange Rows.bmapCutsSpec).preRow enc Tryz.prog Tryz.f6 Rows.bmapCutsRow.domain false Rows.bmapCutsRow.laid) (((OpenSpec.ofChange Rows.bmapCutsSpec).at F).post enc Tryz.prog Tryz.f6 false true false false) := by
  obtain ⟨places, hx⟩ := reads os enc
  refine lifted_row (C := Tryz.checked) (P := Tryz.prog) (s := Rows.bmapCutsSpec) (tb := 4) rfl Tryz.own started (by kernel_rfl) Tryz.func6
    (witness_row_at (enc := enc) (C := Tryz.checked) false (laidWorld os) #[.agg ⟨[.int .i64 0, .slice none 0 0, .slice none 0 0]⟩, .slice none 0 0, .agg ⟨[.int .i64 0, .int .i64 0]⟩] rfl (by kernel_rfl) (by kernel_rfl) (by kernel_rfl)
      (OpenSpec.preRow_of_cond 8 hx (by kernel_rfl) (fun k hk => by cases hk) (by kernel_rfl) (laid_met os)))
    Tryz.laidOut (by kernel_rfl) (by kernel_rfl) Tryz.underlying4 rfl ?_ ?_
  · intro ds hl
    rw [Tryz.params6] at hl
    match ds, hl with
    | [_, _, _], _ => exact ⟨rfl, rfl, rfl⟩
  · intro W base args ds ps hval hA hsz hL
    rw [Tryz.params6] at hA hval hsz
    obtain ⟨v0, v1, v2, d0, d1, d2, p0, p1, p2, rfl, rfl, rfl, h0, h1, h2⟩ := trodAll_three hA
    obtain ⟨more, ta, tc, ra, rc, ks, rs, rfl, X, Y, hY, l1, l2⟩ := open_setup (hval 0 41 v0 rfl rfl) h0 (light_arg hsz (j := 0) rfl rfl)
    obtain ⟨a1, il, ic, xs, rfl, B1, hy1, hlc1, room1⟩ := open_row (α := Int) (fun x => [Value.int .i64 x]) (fun _ => rfl) Tryz.underlying22 Tryz.cellsInt (hval 1 22 v1 rfl rfl) h1 one_int
    have m1 := light_room (light_arg hsz (j := 1) rfl rfl) Tryz.underlying22 room1
    rw [Tryz.bytesInt] at m1
    rw [flat_map1] at B1
    subst hy1
    obtain ⟨q0, q1, rfl⟩ := open_two (hval 2 56 v2 rfl rfl) h2
    exact Bm.Cuts_spec (table1 hL) X Y hY l1 l2 B1 (by omega) hlc1 true_mk
theorem bcut_said : Rows.BmapCutsSaid :=
  OpenClaim.holds_of_cond 6 Tryz.f6 rfl rfl rfl rfl rfl rfl rfl ⟨rfl, rfl, rfl, rfl, rfl⟩ rfl rfl rfl rfl rfl (by kernel_rfl) Tryz.func6 (by kernel_rfl)
    (of_decide_eq_true (by kernel_rfl)) (by unfold Func.isWrapper; first | (rw [if_pos (by decide +kernel)]; kernel_rfl) | (rw [if_neg (by decide +kernel)]; exact ⟨rfl, rfl⟩))
    (fun os started H enc _ F => by rw [OpenClaim.pre_eq_preRow]; exact bcut_lifted os started H enc F)
theorem bcut_plain (f : FuncId) (fn : Func) (hf : Tryz.pinned.checked.prog.funcNamed "bole/bolelaw10.BmapCuts" = some f) (hfn : Tryz.pinned.checked.prog.funcs[f]? = some fn) :
    false = Tryz.pinned.checked.prog.looks [] ∧ ∀ (j : Nat) t, fn.params[j]? = some t → Tryz.pinned.checked.prog.wantsStandIn t = false := by
  obtain rfl : f = 6 := Option.some.inj ((show Tryz.prog.funcNamed "bole/bolelaw10.BmapCuts" = some 6 by kernel_rfl).symm.trans hf) |>.symm
  obtain rfl : fn = Tryz.f6 := (Option.some.inj (Tryz.func6.symm.trans hfn)).symm
  refine ⟨by kernel_rfl, fun j t ht => ?_⟩
  rw [Tryz.params6] at ht
  have := Array.mem_of_getElem? ht
  have : t = 41 ∨ t = 22 ∨ t = 56 := by simpa using this
  rcases this with rfl | rfl | rfl
  · exact (show Tryz.prog.wantsStandIn 41 = false by kernel_rfl)
  · exact (show Tryz.prog.wantsStandIn 22 = false by kernel_rfl)
  · exact (show Tryz.prog.wantsStandIn 56 = false by kernel_rfl)
theorem bmapCuts_card : Rows.BmapCutsCardSaid :=
  Claim7.holds_tied_plain_at .later [] _ _ _ _ bcut_said (fun _ h => by cases h) (by kernel_rfl) (fun _ h => by cases h) bmapCuts_row_tie rfl ⟨rfl, rfl⟩ (by kernel_rfl) rfl bcut_plain (by kernel_rfl)
end Go.Proofs.YtcdpakjhjmchhaaGreatDoor
