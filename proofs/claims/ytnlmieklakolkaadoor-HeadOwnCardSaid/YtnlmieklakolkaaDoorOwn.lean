/-
  THE ROW AND THE CARD OF HeadOwn.
-/
import Derived.Test.YtnlmieklakolkaaDoorPln
import Derived.Test.YtnlmieklakolkaaDoorHwE
namespace Go.Proofs.YtnlmieklakolkaaDoor
open Go Go.ChangeShapes Go.WideShapes Go.ChangeAt Go.RowKit Go.Proofs.YtnlmieklakolkaaDoor.Wx Go.Proofs.YtnlmieklakolkaaDoor.Hp Go.Proofs.YtnlmieklakolkaaDoor.Gl

theorem laid_met (os : Os) : laidMet Tryd.prog Rows.headOwnRow.laid ((laidWorld os).forCall (fun _ _ => 0) ⟨#[], #[.agg #[.slice none 0 0, .slice none 0 0], .agg #[.slice none 0 0, .slice none 0 0]], []⟩).memory :=
  laidMet_of_run' 8 (by kernel_rfl) (by kernel_rfl)
theorem reads (os : Os) {H : Type} (enc : TypeId × Value → H) : ∃ places, DataW.whole enc Tryd.prog ((laidWorld os).forCall (fun _ _ => 0) ⟨#[], #[.agg #[.slice none 0 0, .slice none 0 0], .agg #[.slice none 0 0, .slice none 0 0]], []⟩).memory Tryd.f7.params.toList Rows.headOwnSpec.vars false #[Value.agg #[.slice none 0 0, .slice none 0 0], .agg #[.slice none 0 0, .slice none 0 0]].toList 8 = some ([.agg [.nil, .nil], .agg [.nil, .nil]], [], places) :=
  ⟨[], by kernel_rfl⟩
set_option maxRecDepth 100000 in
theorem ownrow_lifted (os : Os) (started : os.Started) (H : Type) (enc : TypeId × Value → H) (F : Stop.Interp) :
    ReturnsInHanded {} Tryd.checked os 7 .any ((OpenSpec.ofChange Rows.headOwnSpec).preRow enc Tryd.prog Tryd.f7 Rows.headOwnRow.domain false Rows.headOwnRow.laid) (((OpenSpec.ofChange Rows.headOwnSpec).at F).post enc Tryd.prog Tryd.f7 false true false false) := by
  obtain ⟨places, hx⟩ := reads os enc
  refine lifted_row (C := Tryd.checked) (P := Tryd.prog) (s := Rows.headOwnSpec) (tb := 4) rfl Tryd.own started (by kernel_rfl) Tryd.func7
    (witness_row_at (enc := enc) (C := Tryd.checked) false (laidWorld os) #[.agg #[.slice none 0 0, .slice none 0 0], .agg #[.slice none 0 0, .slice none 0 0]] rfl (by kernel_rfl) (by kernel_rfl) (by kernel_rfl)
      (OpenSpec.preRow_of_cond 8 hx (by kernel_rfl) (fun k hk => by cases hk) (by kernel_rfl) (laid_met os)))
    Tryd.laidOut (by kernel_rfl) (by kernel_rfl) Tryd.underlying4 rfl ?_ ?_
  · intro ds hl
    rw [Tryd.params7] at hl
    match ds, hl with
    | [_, _], _ => exact ⟨rfl, rfl, rfl⟩
  · intro W base args ds ps hval hA hsz hL
    rw [Tryd.params7] at hA hval hsz
    obtain ⟨v0, v1, d0, d1, p0, p1, rfl, rfl, rfl, h0, h1⟩ := trodAll_two hA
    obtain ⟨sa, sl, sc, da, dl, dc, steps, seed, rfl, S, hs, D⟩ := open_plan (hval 0 43 v0 rfl rfl) h0
    obtain ⟨sa2, sl2, sc2, da2, dl2, dc2, steps2, seed2, rfl, S2, hs2, D2⟩ := open_plan (hval 1 43 v1 rfl rfl) h1
    exact Hd.HeadOwn_spec (p := ⟨sa, sl, sc, da, dl, dc, steps, seed⟩) (q := ⟨sa2, sl2, sc2, da2, dl2, dc2, steps2, seed2⟩) (tables hL) ⟨S, hs, D⟩ ⟨S2, hs2, D2⟩ true_mk
theorem ownrow_said : Rows.HeadOwnSaid :=
  OpenClaim.holds_of_cond 7 Tryd.f7 rfl rfl rfl rfl rfl rfl rfl ⟨rfl, rfl, rfl, rfl, rfl⟩ rfl rfl rfl rfl rfl (by kernel_rfl) Tryd.func7 (by kernel_rfl)
    (of_decide_eq_true (by kernel_rfl)) (by unfold Func.isWrapper; first | (rw [if_pos (by decide +kernel)]; kernel_rfl) | (rw [if_neg (by decide +kernel)]; exact ⟨rfl, rfl⟩))
    (fun os started H enc _ F => by rw [OpenClaim.pre_eq_preRow]; exact ownrow_lifted os started H enc F)
theorem ownrow_plain (f : FuncId) (fn : Func) (hf : Tryd.pinned.checked.prog.funcNamed "bole/bolelaw04.HeadOwn" = some f) (hfn : Tryd.pinned.checked.prog.funcs[f]? = some fn) :
    false = Tryd.pinned.checked.prog.looks [] ∧ ∀ (j : Nat) t, fn.params[j]? = some t → Tryd.pinned.checked.prog.wantsStandIn t = false := by
  obtain rfl : f = 7 := Option.some.inj ((show Tryd.prog.funcNamed "bole/bolelaw04.HeadOwn" = some 7 by kernel_rfl).symm.trans hf) |>.symm
  obtain rfl : fn = Tryd.f7 := (Option.some.inj (Tryd.func7.symm.trans hfn)).symm
  refine ⟨by kernel_rfl, fun j t ht => ?_⟩
  rw [Tryd.params7] at ht
  have := Array.mem_of_getElem? ht
  have : t = 43 := by simpa using this
  rcases this with rfl
  exact (show Tryd.prog.wantsStandIn 43 = false by kernel_rfl)
theorem headOwn_card : Rows.HeadOwnCardSaid :=
  Claim7.holds_tied_plain_at .later [] _ _ _ _ ownrow_said (fun _ h => by cases h) (by kernel_rfl) (fun _ h => by cases h) headOwn_row_tie rfl ⟨rfl, rfl⟩ (by kernel_rfl) rfl ownrow_plain (by kernel_rfl)
end Go.Proofs.YtnlmieklakolkaaDoor
