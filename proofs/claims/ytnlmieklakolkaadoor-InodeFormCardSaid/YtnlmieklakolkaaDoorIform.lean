/-
  THE ROW AND THE CARD OF InodeForm.
-/
import Derived.Test.YtnlmieklakolkaaDoorRcd
import Derived.Test.YtnlmieklakolkaaDoorInG
namespace Go.Proofs.YtnlmieklakolkaaDoor
open Go Go.ChangeShapes Go.WideShapes Go.ChangeAt Go.RowKit Go.Proofs.YtnlmieklakolkaaDoor.Wx Go.Proofs.YtnlmieklakolkaaDoor.Hp Go.Proofs.YtnlmieklakolkaaDoor.Gl

theorem laid_met (os : Os) : laidMet Tryd.prog Rows.inodeFormRow.laid ((laidWorld os).forCall (fun _ _ => 0) ⟨#[], #[.agg ⟨Hd.ints In.z15⟩, .agg ⟨Hd.ints In.z15⟩, .slice none 0 0], []⟩).memory :=
  laidMet_of_run' 8 (by kernel_rfl) (by kernel_rfl)
theorem reads (os : Os) {H : Type} (enc : TypeId × Value → H) : ∃ places, DataW.whole enc Tryd.prog ((laidWorld os).forCall (fun _ _ => 0) ⟨#[], #[.agg ⟨Hd.ints In.z15⟩, .agg ⟨Hd.ints In.z15⟩, .slice none 0 0], []⟩).memory Tryd.f9.params.toList Rows.inodeFormSpec.vars false #[Value.agg ⟨Hd.ints In.z15⟩, .agg ⟨Hd.ints In.z15⟩, .slice none 0 0].toList 8 = some ([.agg [.lit (.int .i64 0), .lit (.int .i64 0), .lit (.int .i64 0), .agg (List.replicate 10 (.lit (.int .i64 0))), .lit (.int .i64 0), .lit (.int .i64 0)], .agg [.lit (.int .i64 0), .lit (.int .i64 0), .lit (.int .i64 0), .agg (List.replicate 10 (.lit (.int .i64 0))), .lit (.int .i64 0), .lit (.int .i64 0)], .nil], [], places) :=
  ⟨[], by kernel_rfl⟩
set_option maxRecDepth 100000 in
theorem form_lifted (os : Os) (started : os.Started) (H : Type) (enc : TypeId × Value → H) (F : Stop.Interp) :
    ReturnsInHanded {} Tryd.checked os 9 .any ((OpenSpec.ofChange Rows.inodeFormSpec).preRow enc Tryd.prog Tryd.f9 Rows.inodeFormRow.domain false Rows.inodeFormRow.laid) (((OpenSpec.ofChange Rows.inodeFormSpec).at F).post enc Tryd.prog Tryd.f9 false true false false) := by
  obtain ⟨places, hx⟩ := reads os enc
  refine lifted_row (C := Tryd.checked) (P := Tryd.prog) (s := Rows.inodeFormSpec) (tb := 4) rfl Tryd.own started (by kernel_rfl) Tryd.func9
    (witness_row_at (enc := enc) (C := Tryd.checked) false (laidWorld os) #[.agg ⟨Hd.ints In.z15⟩, .agg ⟨Hd.ints In.z15⟩, .slice none 0 0] rfl (by kernel_rfl) (by kernel_rfl) (by kernel_rfl)
      (OpenSpec.preRow_of_cond 8 hx (by kernel_rfl) (fun k hk => by cases hk) (by kernel_rfl) (laid_met os)))
    Tryd.laidOut (by kernel_rfl) (by kernel_rfl) Tryd.underlying4 rfl ?_ ?_
  · intro ds hl
    rw [Tryd.params9] at hl
    match ds, hl with
    | [_, _, _], _ => exact ⟨rfl, rfl, rfl⟩
  · intro W base args ds ps hval hA hsz hL
    rw [Tryd.params9] at hA hval hsz
    obtain ⟨v0, v1, v2, d0, d1, d2, p0, p1, p2, rfl, rfl, rfl, h0, h1, h2⟩ := trodAll_three hA
    obtain ⟨R, rfl, hR⟩ := open_inode (hval 0 58 v0 rfl rfl) h0
    obtain ⟨Q, rfl, hQ⟩ := open_inode (hval 1 58 v1 rfl rfl) h1
    obtain ⟨a, l, c, bs, rfl, B, hlc, room⟩ := open_bytes Tryd.underlying26 Tryd.underlying5 Tryd.cellsByte (hval 2 26 v2 rfl rfl) h2
    exact In.InodeForm_spec (table1 hL) hR hQ B hlc true_mk
theorem form_said : Rows.InodeFormSaid :=
  OpenClaim.holds_of_cond 9 Tryd.f9 rfl rfl rfl rfl rfl rfl rfl ⟨rfl, rfl, rfl, rfl, rfl⟩ rfl rfl rfl rfl rfl (by kernel_rfl) Tryd.func9 (by kernel_rfl)
    (of_decide_eq_true (by kernel_rfl)) (by unfold Func.isWrapper; first | (rw [if_pos (by decide +kernel)]; kernel_rfl) | (rw [if_neg (by decide +kernel)]; exact ⟨rfl, rfl⟩))
    (fun os started H enc _ F => by rw [OpenClaim.pre_eq_preRow]; exact form_lifted os started H enc F)
theorem form_plain (f : FuncId) (fn : Func) (hf : Tryd.pinned.checked.prog.funcNamed "bole/bolelaw11.InodeForm" = some f) (hfn : Tryd.pinned.checked.prog.funcs[f]? = some fn) :
    false = Tryd.pinned.checked.prog.looks [] ∧ ∀ (j : Nat) t, fn.params[j]? = some t → Tryd.pinned.checked.prog.wantsStandIn t = false := by
  obtain rfl : f = 9 := Option.some.inj ((show Tryd.prog.funcNamed "bole/bolelaw11.InodeForm" = some 9 by kernel_rfl).symm.trans hf) |>.symm
  obtain rfl : fn = Tryd.f9 := (Option.some.inj (Tryd.func9.symm.trans hfn)).symm
  refine ⟨by kernel_rfl, fun j t ht => ?_⟩
  rw [Tryd.params9] at ht
  have := Array.mem_of_getElem? ht
  have : t = 58 ∨ t = 26 := by simpa using this
  rcases this with rfl | rfl
  · exact (show Tryd.prog.wantsStandIn 58 = false by kernel_rfl)
  · exact (show Tryd.prog.wantsStandIn 26 = false by kernel_rfl)
theorem inodeForm_card : Rows.InodeFormCardSaid :=
  Claim7.holds_tied_plain_at .later [] _ _ _ _ form_said (fun _ h => by cases h) (by kernel_rfl) (fun _ h => by cases h) inodeForm_row_tie rfl ⟨rfl, rfl⟩ (by kernel_rfl) rfl form_plain (by kernel_rfl)
end Go.Proofs.YtnlmieklakolkaaDoor
