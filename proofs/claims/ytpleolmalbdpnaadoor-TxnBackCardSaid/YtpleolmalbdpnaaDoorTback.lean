/-
  THE ROW AND THE CARD OF TxnBack.
-/
import Derived.Test.YtpleolmalbdpnaaDoorTb6
import Derived.Test.YtpleolmalbdpnaaDoorTxK
namespace Go.Proofs.YtpleolmalbdpnaaDoor
open Go Go.ChangeShapes Go.WideShapes Go.ChangeAt Go.RowKit Go.Proofs.YtpleolmalbdpnaaDoor.Wx Go.Proofs.YtpleolmalbdpnaaDoor.Hp Go.Proofs.YtpleolmalbdpnaaDoor.Gl

theorem laid_met (os : Os) : laidMet Tryd.prog Rows.txnBackRow.laid ((laidWorld os).forCall (fun _ _ => 0) ⟨#[], #[.slice none 0 0, .slice none 0 0, .slice none 0 0], []⟩).memory :=
  laidMet_of_run' 8 (by kernel_rfl) (by kernel_rfl)
theorem reads (os : Os) {H : Type} (enc : TypeId × Value → H) : ∃ places, DataW.whole enc Tryd.prog ((laidWorld os).forCall (fun _ _ => 0) ⟨#[], #[.slice none 0 0, .slice none 0 0, .slice none 0 0], []⟩).memory Tryd.f7.params.toList Rows.txnBackSpec.vars false #[Value.slice none 0 0, .slice none 0 0, .slice none 0 0].toList 8 = some ([.nil, .nil, .nil], [], places) :=
  ⟨[], by kernel_rfl⟩
set_option maxRecDepth 100000 in
theorem tback_lifted (os : Os) (started : os.Started) (H : Type) (enc : TypeId × Value → H) (F : Stop.Interp) :
    ReturnsInHanded {} Tryd.checked os 7 .any ((OpenSpec.ofChange Rows.txnBackSpec).preRow enc Tryd.prog Tryd.f7 Rows.txnBackRow.domain false Rows.txnBackRow.laid) (((OpenSpec.ofChange Rows.txnBackSpec).at F).post enc Tryd.prog Tryd.f7 false true false false) := by
  obtain ⟨places, hx⟩ := reads os enc
  refine lifted_row (C := Tryd.checked) (P := Tryd.prog) (s := Rows.txnBackSpec) (tb := 4) rfl Tryd.own started (by kernel_rfl) Tryd.func7
    (witness_row_at (enc := enc) (C := Tryd.checked) false (laidWorld os) #[.slice none 0 0, .slice none 0 0, .slice none 0 0] rfl (by kernel_rfl) (by kernel_rfl) (by kernel_rfl)
      (OpenSpec.preRow_of_cond 8 hx (by kernel_rfl) (fun k hk => by cases hk) (by kernel_rfl) (laid_met os)))
    Tryd.laidOut (by kernel_rfl) (by kernel_rfl) Tryd.underlying4 rfl ?_ ?_
  · intro ds hl
    rw [Tryd.params7] at hl
    match ds, hl with
    | [_, _, _], _ => exact ⟨rfl, rfl, rfl⟩
  · intro W base args ds ps hval hA hsz hL
    rw [Tryd.params7] at hA hval hsz
    obtain ⟨v0, v1, v2, d0, d1, d2, p0, p1, p2, rfl, rfl, rfl, h0, h1, h2⟩ := trodAll_three hA
    obtain ⟨a, l, c, xs, rfl, L, hcl, _, _⟩ := open_row (α := Txl.Pt) Txl.ptV (fun _ => rfl) Tryd.underlying63 Tryd.cellsPut (hval 0 63 v0 rfl rfl) h0 one_put
    obtain ⟨a', l', c', xs', rfl, L', hcl', _, _⟩ := open_row (α := Txl.Pt) Txl.ptV (fun _ => rfl) Tryd.underlying63 Tryd.cellsPut (hval 1 63 v1 rfl rfl) h1 one_put
    obtain ⟨a'', l'', c'', xs'', rfl, L'', hcl'', _, _⟩ := open_row (α := Txl.Pt) Txl.ptV (fun _ => rfl) Tryd.underlying63 Tryd.cellsPut (hval 2 63 v2 rfl rfl) h2 one_put
    subst hcl hcl' hcl''
    exact Txl.TxnBack_spec (tables hL) L L' L'' true_mk
theorem tback_said : Rows.TxnBackSaid :=
  OpenClaim.holds_of_cond 7 Tryd.f7 rfl rfl rfl rfl rfl rfl rfl ⟨rfl, rfl, rfl, rfl, rfl⟩ rfl rfl rfl rfl rfl (by kernel_rfl) Tryd.func7 (by kernel_rfl)
    (of_decide_eq_true (by kernel_rfl)) (by unfold Func.isWrapper; first | (rw [if_pos (by decide +kernel)]; kernel_rfl) | (rw [if_neg (by decide +kernel)]; exact ⟨rfl, rfl⟩))
    (fun os started H enc _ F => by rw [OpenClaim.pre_eq_preRow]; exact tback_lifted os started H enc F)
theorem tback_plain (f : FuncId) (fn : Func) (hf : Tryd.pinned.checked.prog.funcNamed "bole/bolelaw06.TxnBack" = some f) (hfn : Tryd.pinned.checked.prog.funcs[f]? = some fn) :
    true = Tryd.pinned.checked.prog.looks [] ∧ ∀ (j : Nat) t, fn.params[j]? = some t → Tryd.pinned.checked.prog.wantsStandIn t = false := by
  obtain rfl : f = 7 := Option.some.inj ((show Tryd.prog.funcNamed "bole/bolelaw06.TxnBack" = some 7 by kernel_rfl).symm.trans hf) |>.symm
  obtain rfl : fn = Tryd.f7 := (Option.some.inj (Tryd.func7.symm.trans hfn)).symm
  refine ⟨by kernel_rfl, fun j t ht => ?_⟩
  rw [Tryd.params7] at ht
  have := Array.mem_of_getElem? ht
  obtain rfl : t = 63 := by simpa using this
  exact (show Tryd.prog.wantsStandIn 63 = false by kernel_rfl)
theorem txnBack_card : Rows.TxnBackCardSaid :=
  Claim7.holds_tied_plain_at .later [] _ _ _ _ tback_said (fun _ h => by cases h) (by kernel_rfl) (fun _ h => by cases h) txnBack_row_tie rfl ⟨rfl, rfl⟩ (by kernel_rfl) rfl tback_plain (by kernel_rfl)
end Go.Proofs.YtpleolmalbdpnaaDoor
