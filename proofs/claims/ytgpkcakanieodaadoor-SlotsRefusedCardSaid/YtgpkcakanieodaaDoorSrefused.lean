/-
  THE ROW AND THE CARD OF SlotsRefused.
-/
import Derived.Test.YtgpkcakanieodaaDoorTb3
import Derived.Test.YtgpkcakanieodaaDoorGlG
import Derived.Test.YtgpkcakanieodaaDoorSlG
namespace Go.Proofs.YtgpkcakanieodaaDoor
open Go Go.ChangeShapes Go.WideShapes Go.ChangeAt Go.RowKit Go.Proofs.YtgpkcakanieodaaDoor.Wx Go.Proofs.YtgpkcakanieodaaDoor.Hp Go.Proofs.YtgpkcakanieodaaDoor.Gl

set_option maxRecDepth 100000 in
theorem open_cell {H : Type} {enc : TypeId × Value → H} {W : World} {base : Nat} {v : Value} {d : DataW H} {p : List MemPlace} (hval : Value.okWide Tryd.prog W .any base 58 v) (h : DataW.Trod enc Tryd.prog W 0 (fun _ => true) true 58 v d p) :
    ∃ x : Ss.Cl, v = .agg ⟨Ss.Cl.v x⟩ := by
  obtain ⟨cs, rfl, _⟩ := okWide_struct Tryd.underlying58 hval
  obtain ⟨fuel, hf⟩ := h
  obtain ⟨x, e⟩ := one_cell _ _ _ hf
  obtain ⟨cl⟩ := cs
  have e : cl = Ss.Cl.v x := by simpa [Value.cells] using e
  exact ⟨x, by rw [e]⟩
set_option maxRecDepth 100000 in
theorem open_entry {H : Type} {enc : TypeId × Value → H} {W : World} {base : Nat} {v : Value} {d : DataW H} {p : List MemPlace} (hval : Value.okWide Tryd.prog W .any base 30 v) (h : DataW.Trod enc Tryd.prog W 0 (fun _ => true) true 30 v d p) (L : Light Tryd.prog 30 d) :
    ∃ x : Sk.E, v = .agg ⟨Ss.E.v x⟩ ∧ x.name.length ≤ 140737488351232 := by
  obtain ⟨cs, rfl, _⟩ := okWide_struct Tryd.underlying30 hval
  obtain ⟨fuel, hf⟩ := h
  obtain ⟨y0, y1, y2, k, hy, hl, h0, h1, h2⟩ := Go.Deep.trod_struct3 Tryd.underlying30 hf
  have hd : d = .agg [y0.1, y1.1, y2.1] := congrArg Prod.fst hy
  rw [Tryd.cellsEntry] at hl
  simp only [Tryd.cellsInt, Tryd.cellsText] at h0 h1 h2
  obtain ⟨cl⟩ := cs
  match cl, hl with
  | [a, b, c], _ =>
    obtain ⟨n0, e0, _, _⟩ := DataW.trod_int Tryd.underlying3 h0
    obtain ⟨s, e1, ey, hs⟩ := DataW.trod_string Tryd.underlying9 h1
    obtain ⟨n2, e2, _, _⟩ := DataW.trod_int Tryd.underlying3 h2
    have e0 : a = .int .i64 n0 := by simpa [Value.cells] using e0
    have e1 : b = .string s := by simpa [Value.cells] using e1
    have e2 : c = .int .i64 n2 := by simpa [Value.cells] using e2
    have hw : s.data.toList.length ≤ 140737488351232 := by
      refine L _ ?_
      rw [hd]
      refine weight_part (j := 1) (u := 9) (d := y1.1) Tryd.underlying30 rfl rfl ?_
      rw [ey]
      simp [DataW.weights]
    obtain ⟨⟨l⟩⟩ := s
    exact ⟨⟨n0, l, n2⟩, by rw [e0, e1, e2]; rfl, hw⟩
theorem laid_met (os : Os) : laidMet Tryd.prog Rows.slotsRefusedRow.laid ((laidWorld os).forCall (fun _ _ => 0) ⟨#[], #[.slice none 0 0, .agg #[.int .i64 0, .int .i64 0, .int .i64 0, .string (mkStr [])], .agg #[.int .i64 0, .string (mkStr []), .int .i64 0]], []⟩).memory :=
  laidMet_of_run' 8 (by kernel_rfl) (by kernel_rfl)
theorem reads (os : Os) {H : Type} (enc : TypeId × Value → H) : ∃ places, DataW.whole enc Tryd.prog ((laidWorld os).forCall (fun _ _ => 0) ⟨#[], #[.slice none 0 0, .agg #[.int .i64 0, .int .i64 0, .int .i64 0, .string (mkStr [])], .agg #[.int .i64 0, .string (mkStr []), .int .i64 0]], []⟩).memory Tryd.f7.params.toList Rows.slotsRefusedSpec.vars false #[Value.slice none 0 0, .agg #[.int .i64 0, .int .i64 0, .int .i64 0, .string (mkStr [])], .agg #[.int .i64 0, .string (mkStr []), .int .i64 0]].toList 8 = some ([.nil, .agg [.lit (.int .i64 0), .lit (.int .i64 0), .lit (.int .i64 0), .lit (.string [])], .agg [.lit (.int .i64 0), .lit (.string []), .lit (.int .i64 0)]], [], places) :=
  ⟨[], by kernel_rfl⟩
set_option maxRecDepth 100000 in
theorem refused_lifted (os : Os) (started : os.Started) (H : Type) (enc : TypeId × Value → H) (F : Stop.Interp) :
    ReturnsInHanded {} Tryd.checked os 7 .any ((OpenSpec.ofChange Rows.slotsRefusedSpec).preRow enc Tryd.prog Tryd.f7 Rows.slotsRefusedRow.domain false Rows.slotsRefusedRow.laid) (((OpenSpec.ofChange Rows.slotsRefusedSpec).at F).post enc Tryd.prog Tryd.f7 false true false false) := by
  obtain ⟨places, hx⟩ := reads os enc
  refine lifted_row (C := Tryd.checked) (P := Tryd.prog) (s := Rows.slotsRefusedSpec) (tb := 4) rfl Tryd.own started (by kernel_rfl) Tryd.func7
    (witness_row_at (enc := enc) (C := Tryd.checked) false (laidWorld os) #[.slice none 0 0, .agg #[.int .i64 0, .int .i64 0, .int .i64 0, .string (mkStr [])], .agg #[.int .i64 0, .string (mkStr []), .int .i64 0]] rfl (by kernel_rfl) (by kernel_rfl) (by kernel_rfl)
      (OpenSpec.preRow_of_cond 8 hx (by kernel_rfl) (fun k hk => by cases hk) (by kernel_rfl) (laid_met os)))
    Tryd.laidOut (by kernel_rfl) (by kernel_rfl) Tryd.underlying4 rfl ?_ ?_
  · intro ds hl
    rw [Tryd.params7] at hl
    match ds, hl with
    | [_, _, _], _ => exact ⟨rfl, rfl, rfl⟩
  · intro W base args ds ps hval hA hsz hL
    rw [Tryd.params7] at hA hval hsz
    obtain ⟨v0, v1, v2, d0, d1, d2, p0, p1, p2, rfl, rfl, rfl, h0, h1, h2⟩ := trodAll_three hA
    obtain ⟨a, l, c, bs, rfl, B, hlc, room⟩ := open_bytes Tryd.underlying22 Tryd.underlying5 Tryd.cellsByte (hval 0 22 v0 rfl rfl) h0
    obtain ⟨cl, rfl⟩ := open_cell (hval 1 58 v1 rfl rfl) h1
    have L2 : Light Tryd.prog 30 d2 := light_arg hsz (j := 2) rfl rfl
    obtain ⟨bad, rfl, hbad⟩ := open_entry (hval 2 30 v2 rfl rfl) h2 L2
    have m0 := room_le hsz (j := 0) (t := 22) (e := 5) room rfl rfl Tryd.underlying22
    rw [Tryd.bytesByte] at m0
    exact Ss.SlotsRefused_spec (tables hL) B (by omega) hbad true_mk
theorem refused_said : Rows.SlotsRefusedSaid :=
  OpenClaim.holds_of_cond 7 Tryd.f7 rfl rfl rfl rfl rfl rfl rfl ⟨rfl, rfl, rfl, rfl, rfl⟩ rfl rfl rfl rfl rfl (by kernel_rfl) Tryd.func7 (by kernel_rfl)
    (of_decide_eq_true (by kernel_rfl)) (by unfold Func.isWrapper; first | (rw [if_pos (by decide +kernel)]; kernel_rfl) | (rw [if_neg (by decide +kernel)]; exact ⟨rfl, rfl⟩))
    (fun os started H enc _ F => by rw [OpenClaim.pre_eq_preRow]; exact refused_lifted os started H enc F)
theorem refused_plain (f : FuncId) (fn : Func) (hf : Tryd.pinned.checked.prog.funcNamed "bole/bolelaw14.SlotsRefused" = some f) (hfn : Tryd.pinned.checked.prog.funcs[f]? = some fn) :
    false = Tryd.pinned.checked.prog.looks [] ∧ ∀ (j : Nat) t, fn.params[j]? = some t → Tryd.pinned.checked.prog.wantsStandIn t = false := by
  obtain rfl : f = 7 := Option.some.inj ((show Tryd.prog.funcNamed "bole/bolelaw14.SlotsRefused" = some 7 by kernel_rfl).symm.trans hf) |>.symm
  obtain rfl : fn = Tryd.f7 := (Option.some.inj (Tryd.func7.symm.trans hfn)).symm
  refine ⟨by kernel_rfl, fun j t ht => ?_⟩
  rw [Tryd.params7] at ht
  have := Array.mem_of_getElem? ht
  have : t = 22 ∨ t = 58 ∨ t = 30 := by simpa using this
  rcases this with rfl | rfl | rfl
  · exact (show Tryd.prog.wantsStandIn 22 = false by kernel_rfl)
  · exact (show Tryd.prog.wantsStandIn 58 = false by kernel_rfl)
  · exact (show Tryd.prog.wantsStandIn 30 = false by kernel_rfl)
theorem slotsRefused_card : Rows.SlotsRefusedCardSaid :=
  Claim7.holds_tied_plain_at .later [] _ _ _ _ refused_said (fun _ h => by cases h) (by kernel_rfl) (fun _ h => by cases h) slotsRefused_row_tie rfl ⟨rfl, rfl⟩ (by kernel_rfl) rfl refused_plain (by kernel_rfl)
end Go.Proofs.YtgpkcakanieodaaDoor
