/-
  THE ROW OF SpaceFills.
-/
import Derived.Test.YtpleolmalbdpnaaTb4
import Derived.Test.YtpleolmalbdpnaaSpcJ
import Derived.Lib.SmallJoins
namespace Go.Proofs.Ytpleolmalbdpnaa
open Go Go.ChangeShapes Go.WideShapes Go.ChangeAt Go.RowKit Go.Proofs.Ytpleolmalbdpnaa.Wx Go.Proofs.Ytpleolmalbdpnaa.Hp Go.Proofs.Ytpleolmalbdpnaa.Gl

theorem Try.cellsCase : Try.prog.cellsOf 25 = 4 := by kernel_rfl
theorem Try.cellsInt : Try.prog.cellsOf 3 = 1 := by kernel_rfl
theorem Try.cellsByte : Try.prog.cellsOf 5 = 1 := by kernel_rfl
theorem Try.cellsBytes : Try.prog.cellsOf 22 = 1 := by kernel_rfl
theorem Try.cellsOps : Try.prog.cellsOf 23 = 1 := by kernel_rfl
theorem Try.bytesByte : Try.prog.bytesOf 5 = 1 := by kernel_rfl
set_option maxRecDepth 100000 in
/-- a case, as an argument -/
theorem open_case {H : Type} {enc : TypeId × Value → H} {W : World} {base : Nat} {v : Value} {d : DataW H} {p : List MemPlace} (hval : Value.okWide Try.prog W .any base 25 v) (h : DataW.Trod enc Try.prog W 0 (fun _ => true) true 25 v d p) (L : Light Try.prog 25 d) :
    ∃ n ba bl bc rest sa sl sc, ∃ bits : List UInt8, v = .agg ⟨Spc.caseV n ba bl bc rest sa sl sc⟩ ∧ StrAt W.heap ba bl bits ∧ bl ≤ 140737488351232 := by
  obtain ⟨cs, rfl, _⟩ := okWide_struct Try.underlying25 hval
  obtain ⟨fuel, hf⟩ := h
  obtain ⟨y0, y1, y2, y3, k, hy, hl, h0, h1, h2, h3⟩ := Go.Joins.trod_struct4 Try.underlying25 hf
  have hd : d = .agg [y0.1, y1.1, y2.1, y3.1] := congrArg Prod.fst hy
  rw [Try.cellsCase] at hl
  simp only [Try.cellsInt, Try.cellsByte, Try.cellsBytes, Try.cellsOps] at h0 h1 h2 h3
  obtain ⟨cl⟩ := cs
  match cl, hl with
  | [a, b, c, e], _ =>
    obtain ⟨n0, e0, _, _⟩ := DataW.trod_int Try.underlying3 h0
    obtain ⟨ba, bl, bc, bs, e1, B, hlc, room⟩ := inner_bytes Try.underlying22 Try.underlying5 Try.cellsByte h1
    obtain ⟨n2, e2, _, w2⟩ := DataW.trod_int Try.underlying5 h2
    have e0 : a = .int .i64 n0 := by simpa [Value.cells] using e0
    have e1 : b = .slice ba bl bc := by simpa [Value.cells] using e1
    have e2 : c = .int .u8 n2 := by simpa [Value.cells] using e2
    have L1 : Light Try.prog 22 y1.1 := fun w hw => L w (by rw [hd]; exact weight_part (j := 1) Try.underlying25 rfl rfl hw)
    have w1 := light_room L1 Try.underlying22 room
    rw [Try.bytesByte] at w1
    obtain ⟨sa, sl, sc, e3⟩ : ∃ sa sl sc, e = .slice sa sl sc := by
      rcases DataW.trod_slice Try.underlying23 h3 with ⟨hcs, _⟩ | ⟨a', len', cap', elems, rest, n, _, hcs, _⟩
      · have hcs : e = .slice none 0 0 := by simpa [Value.cells] using hcs
        exact ⟨_, _, _, hcs⟩
      · have hcs : e = .slice (some a') len' cap' := by simpa [Value.cells] using hcs
        exact ⟨_, _, _, hcs⟩
    exact ⟨n0, ba, bl, bc, UInt8.ofNat n2.toNat, sa, sl, sc, bs, by rw [e0, e1, e2, e3, Spc.caseV, bv_of w2], B, by omega⟩
set_option maxRecDepth 100000 in
theorem fills_lifted (os : Os) (started : os.Started) (H : Type) (enc : TypeId × Value → H) :
    ReturnsInHanded {} Try.checked os 3 .any (Rows.spaceFillsSpec.pre6 enc Try.prog Try.f3 Rows.spaceFillsRow.domain false) (Rows.spaceFillsSpec.post enc Try.prog Try.f3 false true false false) := by
  refine lifted_bool (C := Try.checked) (P := Try.prog) (tb := 4) rfl Try.own started (by kernel_rfl) Try.func3
    (ChangeSpec.witness6 (enc := enc) (C := Try.checked) false ⟨#[], #[.agg #[.int .i64 0, .slice none 0 0, .int .u8 0, .slice none 0 0], .int .i64 0], []⟩ 8 (by kernel_rfl) (by kernel_rfl) (by kernel_rfl) (by kernel_rfl))
    Try.laidOut (by kernel_rfl) (by kernel_rfl) Try.underlying4 rfl ?_ ?_
  · intro ds hl
    rw [Try.params3] at hl
    match ds, hl with
    | [_, _], _ => exact ⟨rfl, rfl, rfl⟩
  · intro W base args ds ps hval hA hsz
    rw [Try.params3] at hA hval hsz
    obtain ⟨v0, v1, d0, d1, p0, p1, rfl, rfl, rfl, h0, h1⟩ := trodAll_two hA
    obtain ⟨n, ba, bl, bc, rest, sa, sl, sc, bits, rfl, B, hbl⟩ := open_case (hval 0 25 v0 rfl rfl) h0 (light_arg hsz (j := 0) rfl rfl)
    obtain ⟨o, rfl, rfl, rfl, wo⟩ := open_int Try.underlying3 (hval 1 3 v1 rfl rfl) h1
    exact Spc.SpaceFills_spec B (by omega) true_mk

theorem spaceFills_holds : Rows.SpaceFillsSaid :=
  OpenClaim.holds_of_wide 3 Try.f3 rfl rfl rfl rfl rfl rfl rfl ⟨rfl, rfl, rfl, rfl, rfl⟩ rfl rfl rfl rfl rfl (by kernel_rfl) Try.func3 (by kernel_rfl)
    (of_decide_eq_true (by kernel_rfl)) (by unfold Func.isWrapper; first | (rw [if_pos (by decide +kernel)]; kernel_rfl) | (rw [if_neg (by decide +kernel)]; exact ⟨rfl, rfl⟩))
    (fun os started H enc _ => fills_lifted os started H enc)
end Go.Proofs.Ytpleolmalbdpnaa
