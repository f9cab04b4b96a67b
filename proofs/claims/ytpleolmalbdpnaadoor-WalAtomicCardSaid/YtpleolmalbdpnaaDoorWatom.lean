/-
  THE ROW AND THE CARD OF WalAtomic.
-/
import Derived.Test.YtpleolmalbdpnaaDoorTb7
import Derived.Test.YtpleolmalbdpnaaDoorWaB
namespace Go.Proofs.YtpleolmalbdpnaaDoor
open Go Go.ChangeShapes Go.WideShapes Go.ChangeAt Go.RowKit Go.Proofs.YtpleolmalbdpnaaDoor.Wx Go.Proofs.YtpleolmalbdpnaaDoor.Hp Go.Proofs.YtpleolmalbdpnaaDoor.Gl

theorem laid_met (os : Os) : laidMet Tryd.prog Rows.walAtomicRow.laid ((laidWorld os).forCall (fun _ _ => 0) ⟨#[], #[.agg #[.slice none 0 0, .slice none 0 0], .agg #[.int .i64 0, .slice none 0 0], .slice none 0 0], []⟩).memory :=
  laidMet_of_run' 8 (by kernel_rfl) (by kernel_rfl)
theorem reads (os : Os) {H : Type} (enc : TypeId × Value → H) : ∃ places, DataW.whole enc Tryd.prog ((laidWorld os).forCall (fun _ _ => 0) ⟨#[], #[.agg #[.slice none 0 0, .slice none 0 0], .agg #[.int .i64 0, .slice none 0 0], .slice none 0 0], []⟩).memory Tryd.f5.params.toList Rows.walAtomicSpec.vars false #[Value.agg #[.slice none 0 0, .slice none 0 0], .agg #[.int .i64 0, .slice none 0 0], .slice none 0 0].toList 8 = some ([.agg [.nil, .nil], .agg [.lit (.int .i64 0), .nil], .nil], [], places) :=
  ⟨[], by kernel_rfl⟩
set_option maxRecDepth 100000 in
theorem watom_lifted (os : Os) (started : os.Started) (H : Type) (enc : TypeId × Value → H) (F : Stop.Interp) :
    ReturnsInHanded {} Tryd.checked os 5 .any ((OpenSpec.ofChange Rows.walAtomicSpec).preRow enc Tryd.prog Tryd.f5 Rows.walAtomicRow.domain false Rows.walAtomicRow.laid) (((OpenSpec.ofChange Rows.walAtomicSpec).at F).post enc Tryd.prog Tryd.f5 false true false false) := by
  obtain ⟨places, hx⟩ := reads os enc
  refine lifted_row (C := Tryd.checked) (P := Tryd.prog) (s := Rows.walAtomicSpec) (tb := 4) rfl Tryd.own started (by kernel_rfl) Tryd.func5
    (witness_row_at (enc := enc) (C := Tryd.checked) false (laidWorld os) #[.agg #[.slice none 0 0, .slice none 0 0], .agg #[.int .i64 0, .slice none 0 0], .slice none 0 0] rfl (by kernel_rfl) (by kernel_rfl) (by kernel_rfl)
      (OpenSpec.preRow_of_cond 8 hx (by kernel_rfl) (fun k hk => by cases hk) (by kernel_rfl) (laid_met os)))
    Tryd.laidOut (by kernel_rfl) (by kernel_rfl) Tryd.underlying4 rfl ?_ ?_
  · intro ds hl
    rw [Tryd.params5] at hl
    match ds, hl with
    | [_, _, _], _ => exact ⟨rfl, rfl, rfl⟩
  · intro W base args ds ps hval hA hsz hL
    rw [Tryd.params5] at hA hval hsz
    obtain ⟨v0, v1, v2, d0, d1, d2, p0, p1, p2, rfl, rfl, rfl, h0, h1, h2⟩ := trodAll_three hA
    obtain ⟨s0, s1, q0, q1, rfl, ⟨a1, a2, a3⟩, b1, b2, b3⟩ := open_two (hval 0 54 v0 rfl rfl) h0 (light_arg hsz (j := 0) rfl rfl)
    obtain ⟨n, ka, kl, kc, ks, rfl, hn, k1, k2, k3⟩ := open_crash (hval 1 57 v1 rfl rfl) h1 (light_arg hsz (j := 1) rfl rfl)
    obtain ⟨la, ll, lc, cs, kss, rfl, hl, R⟩ := open_crashes (hval 2 58 v2 rfl rfl) h2 (light_arg hsz (j := 2) rfl rfl)
    subst hl
    exact Wc.WalAtomic_spec (tables hL) a1 a2 a3 b1 b2 b3 hn k2 k1 k3 R true_mk
theorem watom_said : Rows.WalAtomicSaid :=
  OpenClaim.holds_of_cond 5 Tryd.f5 rfl rfl rfl rfl rfl rfl rfl ⟨rfl, rfl, rfl, rfl, rfl⟩ rfl rfl rfl rfl rfl (by kernel_rfl) Tryd.func5 (by kernel_rfl)
    (of_decide_eq_true (by kernel_rfl)) (by unfold Func.isWrapper; first | (rw [if_pos (by decide +kernel)]; kernel_rfl) | (rw [if_neg (by decide +kernel)]; exact ⟨rfl, rfl⟩))
    (fun os started H enc _ F => by rw [OpenClaim.pre_eq_preRow]; exact watom_lifted os started H enc F)
theorem watom_plain (f : FuncId) (fn : Func) (hf : Tryd.pinned.checked.prog.funcNamed "bole/bolelaw05.WalAtomic" = some f) (hfn : Tryd.pinned.checked.prog.funcs[f]? = some fn) :
    true = Tryd.pinned.checked.prog.looks [] ∧ ∀ (j : Nat) t, fn.params[j]? = some t → Tryd.pinned.checked.prog.wantsStandIn t = false := by
  obtain rfl : f = 5 := Option.some.inj ((show Tryd.prog.funcNamed "bole/bolelaw05.WalAtomic" = some 5 by kernel_rfl).symm.trans hf) |>.symm
  obtain rfl : fn = Tryd.f5 := (Option.some.inj (Tryd.func5.symm.trans hfn)).symm
  refine ⟨by kernel_rfl, fun j t ht => ?_⟩
  rw [Tryd.params5] at ht
  have := Array.mem_of_getElem? ht
  have : t = 54 ∨ t = 57 ∨ t = 58 := by simpa using this
  rcases this with rfl | rfl | rfl
  · exact (show Tryd.prog.wantsStandIn 54 = false by kernel_rfl)
  · exact (show Tryd.prog.wantsStandIn 57 = false by kernel_rfl)
  · exact (show Tryd.prog.wantsStandIn 58 = false by kernel_rfl)
theorem walAtomic_card : Rows.WalAtomicCardSaid :=
  Claim7.holds_tied_plain_at .later [] _ _ _ _ watom_said (fun _ h => by cases h) (by kernel_rfl) (fun _ h => by cases h) walAtomic_row_tie rfl ⟨rfl, rfl⟩ (by kernel_rfl) rfl watom_plain (by kernel_rfl)
end Go.Proofs.YtpleolmalbdpnaaDoor
