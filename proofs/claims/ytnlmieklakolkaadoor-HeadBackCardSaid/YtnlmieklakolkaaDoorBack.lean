/-
  THE ROW AND THE CARD OF HeadBack.
-/
import Derived.Test.YtnlmieklakolkaaDoorTbl
import Derived.Test.YtnlmieklakolkaaDoorHdE
namespace Go.Proofs.YtnlmieklakolkaaDoor
open Go Go.ChangeShapes Go.WideShapes Go.ChangeAt Go.RowKit Go.Proofs.YtnlmieklakolkaaDoor.Wx Go.Proofs.YtnlmieklakolkaaDoor.Hp Go.Proofs.YtnlmieklakolkaaDoor.Gl

theorem laid_met (os : Os) : laidMet Tryd.prog Rows.headBackRow.laid ((laidWorld os).forCall (fun _ _ => 0) ⟨#[], #[.agg #[.slice none 0 0, .slice none 0 0], .int .i64 0], []⟩).memory :=
  laidMet_of_run' 8 (by kernel_rfl) (by kernel_rfl)
theorem reads (os : Os) {H : Type} (enc : TypeId × Value → H) : ∃ places, DataW.whole enc Tryd.prog ((laidWorld os).forCall (fun _ _ => 0) ⟨#[], #[.agg #[.slice none 0 0, .slice none 0 0], .int .i64 0], []⟩).memory Tryd.f4.params.toList Rows.headBackSpec.vars false #[Value.agg #[.slice none 0 0, .slice none 0 0], .int .i64 0].toList 8 = some ([.agg [.nil, .nil], .lit (.int .i64 0)], [], places) :=
  ⟨[], by kernel_rfl⟩
theorem Tryd.cellsPlan : Tryd.prog.cellsOf 43 = 2 := by kernel_rfl
theorem Tryd.cellsInts : Tryd.prog.cellsOf 22 = 1 := by kernel_rfl
theorem Tryd.cellsInt : Tryd.prog.cellsOf 3 = 1 := by kernel_rfl
set_option maxRecDepth 100000 in
/-- a plan -/
theorem open_plan {H : Type} {enc : TypeId × Value → H} {W : World} {base : Nat} {v : Value} {d : DataW H} {p : List MemPlace} (hval : Value.okWide Tryd.prog W .any base 43 v) (h : DataW.Trod enc Tryd.prog W 0 (fun _ => true) true 43 v d p) :
    ∃ sa sl sc da dl dc, ∃ steps : List Int, ∃ seed : List UInt8, v = .agg ⟨[.slice sa sl sc, .slice da dl dc]⟩ ∧ SlCells W.heap sa (Hd.ints steps) ∧ steps.length = sl ∧ StrAt W.heap da dl seed := by
  obtain ⟨cs, rfl, _⟩ := okWide_struct Tryd.underlying43 hval
  obtain ⟨fuel, hf⟩ := h
  obtain ⟨y0, y1, n, _, hl, h0, h1⟩ := trod_struct2 Tryd.underlying43 hf
  rw [Tryd.cellsPlan] at hl
  simp only [Tryd.cellsInts, Tryd.cellsBytes] at h0 h1
  obtain ⟨cl⟩ := cs
  match cl, hl with
  | [a, b], _ =>
    obtain ⟨sa, sl, sc, steps, e0, S, hs, _, _⟩ := inner_ints Tryd.underlying22 Tryd.underlying3 Tryd.cellsInt h0
    obtain ⟨da, dl, dc, seed, e1, D, hlc, hm⟩ := inner_bytes2 Tryd.underlying26 Tryd.underlying5 Tryd.cellsByte h1
    have e0 : a = .slice sa sl sc := by simpa [Value.cells] using e0
    have e1 : b = .slice da dl dc := by simpa [Value.cells] using e1

    exact ⟨sa, sl, sc, da, dl, dc, steps, seed, by rw [e0, e1], S, hs, D⟩
set_option maxRecDepth 100000 in
theorem back_lifted (os : Os) (started : os.Started) (H : Type) (enc : TypeId × Value → H) (F : Stop.Interp) :
    ReturnsInHanded {} Tryd.checked os 4 .any ((OpenSpec.ofChange Rows.headBackSpec).preRow enc Tryd.prog Tryd.f4 Rows.headBackRow.domain false Rows.headBackRow.laid) (((OpenSpec.ofChange Rows.headBackSpec).at F).post enc Tryd.prog Tryd.f4 false true false false) := by
  obtain ⟨places, hx⟩ := reads os enc
  refine lifted_row (C := Tryd.checked) (P := Tryd.prog) (s := Rows.headBackSpec) (tb := 4) rfl Tryd.own started (by kernel_rfl) Tryd.func4
    (witness_row_at (enc := enc) (C := Tryd.checked) false (laidWorld os) #[.agg #[.slice none 0 0, .slice none 0 0], .int .i64 0] rfl (by kernel_rfl) (by kernel_rfl) (by kernel_rfl)
      (OpenSpec.preRow_of_cond 8 hx (by kernel_rfl) (fun k hk => by cases hk) (by kernel_rfl) (laid_met os)))
    Tryd.laidOut (by kernel_rfl) (by kernel_rfl) Tryd.underlying4 rfl ?_ ?_
  · intro ds hl
    rw [Tryd.params4] at hl
    match ds, hl with
    | [_, _], _ => exact ⟨rfl, rfl, rfl⟩
  · intro W base args ds ps hval hA hsz hL
    rw [Tryd.params4] at hA hval hsz
    obtain ⟨v0, v1, d0, d1, p0, p1, rfl, rfl, rfl, h0, h1⟩ := trodAll_two hA
    obtain ⟨sa, sl, sc, da, dl, dc, steps, seed, rfl, S, hs, D⟩ := open_plan (hval 0 43 v0 rfl rfl) h0
    obtain ⟨n, rfl, rfl, rfl, wn⟩ := open_int Tryd.underlying3 (hval 1 3 v1 rfl rfl) h1
    exact Hd.HeadBack_spec (tables hL) S hs D true_mk
theorem back_said : Rows.HeadBackSaid :=
  OpenClaim.holds_of_cond 4 Tryd.f4 rfl rfl rfl rfl rfl rfl rfl ⟨rfl, rfl, rfl, rfl, rfl⟩ rfl rfl rfl rfl rfl (by kernel_rfl) Tryd.func4 (by kernel_rfl)
    (of_decide_eq_true (by kernel_rfl)) (by unfold Func.isWrapper; first | (rw [if_pos (by decide +kernel)]; kernel_rfl) | (rw [if_neg (by decide +kernel)]; exact ⟨rfl, rfl⟩))
    (fun os started H enc _ F => by rw [OpenClaim.pre_eq_preRow]; exact back_lifted os started H enc F)
theorem back_plain (f : FuncId) (fn : Func) (hf : Tryd.pinned.checked.prog.funcNamed "bole/bolelaw04.HeadBack" = some f) (hfn : Tryd.pinned.checked.prog.funcs[f]? = some fn) :
    false = Tryd.pinned.checked.prog.looks [] ∧ ∀ (j : Nat) t, fn.params[j]? = some t → Tryd.pinned.checked.prog.wantsStandIn t = false := by
  obtain rfl : f = 4 := Option.some.inj ((show Tryd.prog.funcNamed "bole/bolelaw04.HeadBack" = some 4 by kernel_rfl).symm.trans hf) |>.symm
  obtain rfl : fn = Tryd.f4 := (Option.some.inj (Tryd.func4.symm.trans hfn)).symm
  refine ⟨by kernel_rfl, fun j t ht => ?_⟩
  rw [Tryd.params4] at ht
  have := Array.mem_of_getElem? ht
  have : t = 43 ∨ t = 3 := by simpa using this
  rcases this with rfl | rfl
  · exact (show Tryd.prog.wantsStandIn 43 = false by kernel_rfl)
  · exact (show Tryd.prog.wantsStandIn 3 = false by kernel_rfl)
theorem headBack_card : Rows.HeadBackCardSaid :=
  Claim7.holds_tied_plain_at .later [] _ _ _ _ back_said (fun _ h => by cases h) (by kernel_rfl) (fun _ h => by cases h) headBack_row_tie rfl ⟨rfl, rfl⟩ (by kernel_rfl) rfl back_plain (by kernel_rfl)
end Go.Proofs.YtnlmieklakolkaaDoor
