/-
  THE ROW AND THE CARD OF HeadExact.
-/
import Derived.Test.YtnlmieklakolkaaDoorTbl
import Derived.Test.YtnlmieklakolkaaDoorGlG
import Derived.Test.YtnlmieklakolkaaDoorHxB
namespace Go.Proofs.YtnlmieklakolkaaDoor
open Go Go.ChangeShapes Go.WideShapes Go.ChangeAt Go.RowKit Go.Proofs.YtnlmieklakolkaaDoor.Wx Go.Proofs.YtnlmieklakolkaaDoor.Hp Go.Proofs.YtnlmieklakolkaaDoor.Gl

theorem Tryd.cellsAsked : Tryd.prog.cellsOf 25 = 2 := by kernel_rfl
theorem Tryd.cellsInts : Tryd.prog.cellsOf 22 = 1 := by kernel_rfl
theorem Tryd.cellsInt : Tryd.prog.cellsOf 3 = 1 := by kernel_rfl
theorem Tryd.cellsRow : Tryd.prog.cellsOf 23 = 1 := by kernel_rfl
theorem Tryd.bytesInt : Tryd.prog.bytesOf 3 = 8 := by kernel_rfl
def DatW {H : Type} (W : World) (d : DataW H) (s : Hd.Sc) : Prop := (∃ bs, StrAt W.heap s.a s.l bs) ∧ s.l ≤ s.c ∧ Room d s.c
theorem one_bytes {H : Type} {enc : TypeId × Value → H} {W : World} (n : Nat) (cs : List Value) (y : DataW H × List MemPlace) (h : DataW.trod enc Tryd.prog W 0 (fun _ => true) true n 26 cs = some y) : ∃ x : Hd.Sc, cs = [x.v] ∧ DatW W y.1 x := by
  obtain ⟨a, l, c, bs, e, B, hlc, room⟩ := inner_bytes Tryd.underlying26 Tryd.underlying5 Tryd.cellsByte h
  exact ⟨⟨a, l, c⟩, e, ⟨bs, B⟩, hlc, room⟩
set_option maxRecDepth 100000 in
/-- numbers and blocks, as an argument -/
theorem open_asked {H : Type} {enc : TypeId × Value → H} {W : World} {base : Nat} {v : Value} {d : DataW H} {p : List MemPlace} (hval : Value.okWide Tryd.prog W .any base 25 v) (h : DataW.Trod enc Tryd.prog W 0 (fun _ => true) true 25 v d p) (L : Light Tryd.prog 25 d) :
    ∃ na nl nc da dl dc, ∃ ns : List Int, ∃ ss : List Hd.Sc, ∃ ds : List (List UInt8), v = .agg ⟨[.slice na nl nc, .slice da dl dc]⟩ ∧ SlCells W.heap na (Hd.ints ns) ∧ ns.length = nl ∧ nl * 8 ≤ 140737488351232 ∧ Hd.Dat W.heap da dl ss ds ∧ dl * 24 ≤ 140737488351232 ∧ ∀ d ∈ ds, d.length ≤ 140737488351232 := by
  obtain ⟨cs, rfl, _⟩ := okWide_struct Tryd.underlying25 hval
  obtain ⟨fuel, hf⟩ := h
  obtain ⟨y0, y1, n, hy, hl, h0, h1⟩ := trod_struct2 Tryd.underlying25 hf
  have hd : d = .agg [y0.1, y1.1] := congrArg Prod.fst hy
  rw [Tryd.cellsAsked] at hl
  simp only [Tryd.cellsInts, Tryd.cellsRow] at h0 h1
  obtain ⟨cl⟩ := cs
  match cl, hl with
  | [a, b], _ =>
    obtain ⟨na, nl, nc, ns, e0, S, hs, hlc, r0⟩ := inner_intsR Tryd.underlying22 Tryd.underlying3 Tryd.cellsInt h0
    obtain ⟨da, dl, dc, ss, e1, D, hdl, hlc1, r1, hq⟩ := inner_rowW (α := Hd.Sc) (fun s => [s.v]) (DatW W) (fun _ => rfl) Tryd.underlying23 Tryd.cellsBytes h1 one_bytes
    rw [flat_map1] at D
    have e0 : a = .slice na nl nc := by simpa [Value.cells] using e0
    have e1 : b = .slice da dl dc := by simpa [Value.cells] using e1
    have L0 : Light Tryd.prog 22 y0.1 := fun w hw => L w (by rw [hd]; exact weight_part (j := 0) Tryd.underlying25 rfl rfl hw)
    have L1 : Light Tryd.prog 23 y1.1 := fun w hw => L w (by rw [hd]; exact weight_part (j := 1) Tryd.underlying25 rfl rfl hw)
    have w0 := light_room L0 Tryd.underlying22 r0
    have w1 := light_room L1 Tryd.underlying23 r1
    rw [Tryd.bytesInt] at w0
    rw [Tryd.bytesBytes] at w1
    obtain ⟨bss, hbl, hbs⟩ := pick_list (p := fun i (b : List UInt8) => ∀ (hi : i < ss.length), StrAt W.heap ss[i].a ss[i].l b) ss.length fun i hi => by
      obtain ⟨_, _, ⟨b, S⟩, _⟩ := hq i hi
      exact ⟨b, fun _ => S⟩
    refine ⟨na, nl, nc, da, dl, dc, ns, ss, bss, by rw [e0, e1], S, hs, by omega, ⟨D, hdl, hbl.symm, fun i g1 g2 => hbs i g2 g1⟩, by omega, fun d hd' => ?_⟩
    obtain ⟨i, hi, rfl⟩ := List.mem_iff_getElem.mp hd'
    obtain ⟨z, hz, _, hlc2, r2⟩ := hq i (by omega)
    have w2 := light_room (fun w hw => L1 w (hz w hw)) Tryd.underlying26 r2
    rw [Tryd.bytesByte] at w2
    have := (hbs i (by omega) (by omega)).1
    omega
theorem laid_met (os : Os) : laidMet Tryd.prog Rows.headExactRow.laid ((laidWorld os).forCall (fun _ _ => 0) ⟨#[], #[.agg #[.slice none 0 0, .slice none 0 0], .slice none 0 0, .int .i64 0], []⟩).memory :=
  laidMet_of_run' 8 (by kernel_rfl) (by kernel_rfl)
theorem reads (os : Os) {H : Type} (enc : TypeId × Value → H) : ∃ places, DataW.whole enc Tryd.prog ((laidWorld os).forCall (fun _ _ => 0) ⟨#[], #[.agg #[.slice none 0 0, .slice none 0 0], .slice none 0 0, .int .i64 0], []⟩).memory Tryd.f3.params.toList Rows.headExactSpec.vars false #[Value.agg #[.slice none 0 0, .slice none 0 0], .slice none 0 0, .int .i64 0].toList 8 = some ([.agg [.nil, .nil], .nil, .lit (.int .i64 0)], [], places) :=
  ⟨[], by kernel_rfl⟩
set_option maxRecDepth 100000 in
theorem exact_lifted (os : Os) (started : os.Started) (H : Type) (enc : TypeId × Value → H) (F : Stop.Interp) :
    ReturnsInHanded {} Tryd.checked os 3 .any ((OpenSpec.ofChange Rows.headExactSpec).preRow enc Tryd.prog Tryd.f3 Rows.headExactRow.domain false Rows.headExactRow.laid) (((OpenSpec.ofChange Rows.headExactSpec).at F).post enc Tryd.prog Tryd.f3 false true false false) := by
  obtain ⟨places, hx⟩ := reads os enc
  refine lifted_row (C := Tryd.checked) (P := Tryd.prog) (s := Rows.headExactSpec) (tb := 4) rfl Tryd.own started (by kernel_rfl) Tryd.func3
    (witness_row_at (enc := enc) (C := Tryd.checked) false (laidWorld os) #[.agg #[.slice none 0 0, .slice none 0 0], .slice none 0 0, .int .i64 0] rfl (by kernel_rfl) (by kernel_rfl) (by kernel_rfl)
      (OpenSpec.preRow_of_cond 8 hx (by kernel_rfl) (fun k hk => by cases hk) (by kernel_rfl) (laid_met os)))
    Tryd.laidOut (by kernel_rfl) (by kernel_rfl) Tryd.underlying4 rfl ?_ ?_
  · intro ds hl
    rw [Tryd.params3] at hl
    match ds, hl with
    | [_, _, _], _ => exact ⟨rfl, rfl, rfl⟩
  · intro W base args ds ps hval hA hsz hL
    rw [Tryd.params3] at hA hval hsz
    obtain ⟨v0, v1, v2, d0, d1, d2, p0, p1, p2, rfl, rfl, rfl, h0, h1, h2⟩ := trodAll_three hA
    obtain ⟨na, nl, nc, da, dl, dc, ns, ss, ds, rfl, N, hns, hnl, D, hdl, hds⟩ := open_asked (hval 0 25 v0 rfl rfl) h0 (light_arg hsz (j := 0) rfl rfl)
    obtain ⟨a, l, c, bs, rfl, B, hlc, room⟩ := open_bytes Tryd.underlying26 Tryd.underlying5 Tryd.cellsByte (hval 1 26 v1 rfl rfl) h1
    have m1 := light_room (light_arg hsz (j := 1) rfl rfl) Tryd.underlying26 room
    rw [Tryd.bytesByte] at m1
    obtain ⟨n, rfl, rfl, rfl, wn⟩ := open_int Tryd.underlying3 (hval 2 3 v2 rfl rfl) h2
    exact Cr.HeadExact_spec (tables hL) N hns hnl D hdl hds B (by omega) true_mk
theorem exact_said : Rows.HeadExactSaid :=
  OpenClaim.holds_of_cond 3 Tryd.f3 rfl rfl rfl rfl rfl rfl rfl ⟨rfl, rfl, rfl, rfl, rfl⟩ rfl rfl rfl rfl rfl (by kernel_rfl) Tryd.func3 (by kernel_rfl)
    (of_decide_eq_true (by kernel_rfl)) (by unfold Func.isWrapper; first | (rw [if_pos (by decide +kernel)]; kernel_rfl) | (rw [if_neg (by decide +kernel)]; exact ⟨rfl, rfl⟩))
    (fun os started H enc _ F => by rw [OpenClaim.pre_eq_preRow]; exact exact_lifted os started H enc F)
theorem exact_plain (f : FuncId) (fn : Func) (hf : Tryd.pinned.checked.prog.funcNamed "bole/bolelaw04.HeadExact" = some f) (hfn : Tryd.pinned.checked.prog.funcs[f]? = some fn) :
    false = Tryd.pinned.checked.prog.looks [] ∧ ∀ (j : Nat) t, fn.params[j]? = some t → Tryd.pinned.checked.prog.wantsStandIn t = false := by
  obtain rfl : f = 3 := Option.some.inj ((show Tryd.prog.funcNamed "bole/bolelaw04.HeadExact" = some 3 by kernel_rfl).symm.trans hf) |>.symm
  obtain rfl : fn = Tryd.f3 := (Option.some.inj (Tryd.func3.symm.trans hfn)).symm
  refine ⟨by kernel_rfl, fun j t ht => ?_⟩
  rw [Tryd.params3] at ht
  have := Array.mem_of_getElem? ht
  have : t = 25 ∨ t = 26 ∨ t = 3 := by simpa using this
  rcases this with rfl | rfl | rfl
  · exact (show Tryd.prog.wantsStandIn 25 = false by kernel_rfl)
  · exact (show Tryd.prog.wantsStandIn 26 = false by kernel_rfl)
  · exact (show Tryd.prog.wantsStandIn 3 = false by kernel_rfl)
theorem headExact_card : Rows.HeadExactCardSaid :=
  Claim7.holds_tied_plain_at .later [] _ _ _ _ exact_said (fun _ h => by cases h) (by kernel_rfl) (fun _ h => by cases h) headExact_row_tie rfl ⟨rfl, rfl⟩ (by kernel_rfl) rfl exact_plain (by kernel_rfl)
end Go.Proofs.YtnlmieklakolkaaDoor
