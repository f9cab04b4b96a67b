/-
  THE ROW AND THE CARD OF HeadBursts.
-/
import Derived.Test.YtnlmieklakolkaaDoorPln
import Derived.Test.YtnlmieklakolkaaDoorHbB
namespace Go.Proofs.YtnlmieklakolkaaDoor
open Go Go.ChangeShapes Go.WideShapes Go.ChangeAt Go.RowKit Go.Proofs.YtnlmieklakolkaaDoor.Wx Go.Proofs.YtnlmieklakolkaaDoor.Hp Go.Proofs.YtnlmieklakolkaaDoor.Gl

theorem laid_met (os : Os) : laidMet Tryd.prog Rows.headBurstsRow.laid ((laidWorld os).forCall (fun _ _ => 0) ⟨#[], #[.agg #[.slice none 0 0, .slice none 0 0], .int .i64 0, .int .i64 0, .int .u32 0], []⟩).memory :=
  laidMet_of_run' 8 (by kernel_rfl) (by kernel_rfl)
theorem reads (os : Os) {H : Type} (enc : TypeId × Value → H) : ∃ places, DataW.whole enc Tryd.prog ((laidWorld os).forCall (fun _ _ => 0) ⟨#[], #[.agg #[.slice none 0 0, .slice none 0 0], .int .i64 0, .int .i64 0, .int .u32 0], []⟩).memory Tryd.f6.params.toList Rows.headBurstsSpec.vars false #[Value.agg #[.slice none 0 0, .slice none 0 0], .int .i64 0, .int .i64 0, .int .u32 0].toList 8 = some ([.agg [.nil, .nil], .lit (.int .i64 0), .lit (.int .i64 0), .lit (.int .u32 0)], [], places) :=
  ⟨[], by kernel_rfl⟩
set_option maxRecDepth 100000 in
theorem bursts_lifted (os : Os) (started : os.Started) (H : Type) (enc : TypeId × Value → H) (F : Stop.Interp) :
    ReturnsInHanded {} Tryd.checked os 6 .any ((OpenSpec.ofChange Rows.headBurstsSpec).preRow enc Tryd.prog Tryd.f6 Rows.headBurstsRow.domain false Rows.headBurstsRow.laid) (((OpenSpec.ofChange Rows.headBurstsSpec).at F).post enc Tryd.prog Tryd.f6 false true false false) := by
  obtain ⟨places, hx⟩ := reads os enc
  refine lifted_row (C := Tryd.checked) (P := Tryd.prog) (s := Rows.headBurstsSpec) (tb := 4) rfl Tryd.own started (by kernel_rfl) Tryd.func6
    (witness_row_at (enc := enc) (C := Tryd.checked) false (laidWorld os) #[.agg #[.slice none 0 0, .slice none 0 0], .int .i64 0, .int .i64 0, .int .u32 0] rfl (by kernel_rfl) (by kernel_rfl) (by kernel_rfl)
      (OpenSpec.preRow_of_cond 8 hx (by kernel_rfl) (fun k hk => by cases hk) (by kernel_rfl) (laid_met os)))
    Tryd.laidOut (by kernel_rfl) (by kernel_rfl) Tryd.underlying4 rfl ?_ ?_
  · intro ds hl
    rw [Tryd.params6] at hl
    match ds, hl with
    | [_, _, _, _], _ => exact ⟨rfl, rfl, rfl⟩
  · intro W base args ds ps hval hA hsz hL
    rw [Tryd.params6] at hA hval hsz
    obtain ⟨v0, v1, v2, v3, d0, d1, d2, d3, p0, p1, p2, p3, rfl, rfl, rfl, h0, h1, h2, h3⟩ := trodAll_four hA
    obtain ⟨sa, sl, sc, da, dl, dc, steps, seed, rfl, S, hs, D⟩ := open_plan (hval 0 43 v0 rfl rfl) h0
    obtain ⟨w, rfl, rfl, rfl, ww⟩ := open_int Tryd.underlying3 (hval 1 3 v1 rfl rfl) h1
    obtain ⟨n, rfl, rfl, rfl, wn⟩ := open_int Tryd.underlying3 (hval 2 3 v2 rfl rfl) h2
    obtain ⟨m, rfl, rfl, rfl, wm⟩ := open_int Tryd.underlying49 (hval 3 49 v3 rfl rfl) h3
    obtain ⟨r0, r1⟩ := int_range ww
    obtain ⟨r2, r3⟩ := int_range wn
    exact Cr.HeadBursts_spec (tables hL) r0 r1 r2 r3 S hs D true_mk
theorem bursts_said : Rows.HeadBurstsSaid :=
  OpenClaim.holds_of_cond 6 Tryd.f6 rfl rfl rfl rfl rfl rfl rfl ⟨rfl, rfl, rfl, rfl, rfl⟩ rfl rfl rfl rfl rfl (by kernel_rfl) Tryd.func6 (by kernel_rfl)
    (of_decide_eq_true (by kernel_rfl)) (by unfold Func.isWrapper; first | (rw [if_pos (by decide +kernel)]; kernel_rfl) | (rw [if_neg (by decide +kernel)]; exact ⟨rfl, rfl⟩))
    (fun os started H enc _ F => by rw [OpenClaim.pre_eq_preRow]; exact bursts_lifted os started H enc F)
theorem bursts_plain (f : FuncId) (fn : Func) (hf : Tryd.pinned.checked.prog.funcNamed "bole/bolelaw04.HeadBursts" = some f) (hfn : Tryd.pinned.checked.prog.funcs[f]? = some fn) :
    false = Tryd.pinned.checked.prog.looks [] ∧ ∀ (j : Nat) t, fn.params[j]? = some t → Tryd.pinned.checked.prog.wantsStandIn t = false := by
  obtain rfl : f = 6 := Option.some.inj ((show Tryd.prog.funcNamed "bole/bolelaw04.HeadBursts" = some 6 by kernel_rfl).symm.trans hf) |>.symm
  obtain rfl : fn = Tryd.f6 := (Option.some.inj (Tryd.func6.symm.trans hfn)).symm
  refine ⟨by kernel_rfl, fun j t ht => ?_⟩
  rw [Tryd.params6] at ht
  have := Array.mem_of_getElem? ht
  have : t = 43 ∨ t = 3 ∨ t = 3 ∨ t = 49 := by simpa using this
  rcases this with rfl | rfl | rfl | rfl
  · exact (show Tryd.prog.wantsStandIn 43 = false by kernel_rfl)
  · exact (show Tryd.prog.wantsStandIn 3 = false by kernel_rfl)
  · exact (show Tryd.prog.wantsStandIn 3 = false by kernel_rfl)
  · exact (show Tryd.prog.wantsStandIn 49 = false by kernel_rfl)
theorem headBursts_card : Rows.HeadBurstsCardSaid :=
  Claim7.holds_tied_plain_at .later [] _ _ _ _ bursts_said (fun _ h => by cases h) (by kernel_rfl) (fun _ h => by cases h) headBursts_row_tie rfl ⟨rfl, rfl⟩ (by kernel_rfl) rfl bursts_plain (by kernel_rfl)
end Go.Proofs.YtnlmieklakolkaaDoor
