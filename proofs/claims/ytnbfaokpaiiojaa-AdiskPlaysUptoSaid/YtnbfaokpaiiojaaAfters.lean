/-
  THE ROW OF AdiskAfters, where what comes in is of bulk at most 1048576.
-/
import Derived.Test.YtnbfaokpaiiojaaGlG
import Derived.Test.YtnbfaokpaiiojaaAfD
namespace Go.Proofs.Ytnbfaokpaiiojaa
open Go Go.ChangeShapes Go.WideShapes Go.ChangeAt Go.RowKit Go.Proofs.Ytnbfaokpaiiojaa.Wx Go.Proofs.Ytnbfaokpaiiojaa.Hp Go.Proofs.Ytnbfaokpaiiojaa.Gl

theorem Try.own : ownKnob Try.prog.godebug = none := by kernel_rfl
theorem Try.laidOut : laidOutB Try.prog = true := by kernel_rfl
theorem Try.cells3 : Try.prog.cellsOf 3 = 1 := by kernel_rfl
theorem Try.cells4 : Try.prog.cellsOf 4 = 1 := by kernel_rfl
theorem Try.cells5 : Try.prog.cellsOf 5 = 1 := by kernel_rfl
theorem Try.cells22 : Try.prog.cellsOf 22 = 1 := by kernel_rfl
theorem Try.cells70 : Try.prog.cellsOf 70 = 3 := by kernel_rfl

theorem one_bool {H : Type} {enc : TypeId × Value → H} {W : World} (n : Nat) (cs : List Value) (y : DataW H × List MemPlace) (h : DataW.trod enc Try.prog W 0 (fun _ => true) true n 4 cs = some y) : ∃ x : Bool, cs = [Value.bool x] := by
  obtain ⟨b, e, _⟩ := DataW.trod_bool Try.underlying4 h
  exact ⟨b, e⟩
/-- an act: its bytes, and how many -/
def ActQ {H : Type} (W : World) (d : DataW H) (e : Ad.Ent) : Prop := ∃ bs, StrAt W.heap e.a e.l bs ∧ e.l ≤ Rows.uptoBulk d
theorem one_act {H : Type} {enc : TypeId × Value → H} {W : World} (n : Nat) (cs : List Value) (y : DataW H × List MemPlace) (h : DataW.trod enc Try.prog W 0 (fun _ => true) true n 70 cs = some y) : ∃ x : Ad.Ent, cs = x.cells ∧ ActQ W y.1 x := by
  obtain ⟨y0, y1, y2, k, hy, hl, h0, h1, h2⟩ := Go.Deep.trod_struct3 Try.underlying70 h
  rw [Try.cells70] at hl
  simp only [Try.cells3, Try.cells22] at h0 h1 h2
  match cs, hl with
  | [a, b, c], _ =>
    obtain ⟨n0, e0, _, _⟩ := DataW.trod_int Try.underlying3 h0
    obtain ⟨n1, e1, _, _⟩ := DataW.trod_int Try.underlying3 h1
    obtain ⟨sa, sl, sc, bs, e2, B, hlc, room⟩ := inner_bytes Try.underlying22 Try.underlying5 Try.cells5 h2
    have e0 : a = .int .i64 n0 := by simpa using e0
    have e1 : b = .int .i64 n1 := by simpa using e1
    have e2 : c = .slice sa sl sc := by simpa using e2
    refine ⟨⟨n0, n1, sa, sl, sc⟩, by rw [e0, e1, e2]; rfl, bs, B, ?_⟩
    have hm := room_bulk room
    have hp := bulk_part (d := y2.1) (l := [y0.1, y1.1, y2.1]) (by simp)
    rw [hy]
    simp only [Rows.uptoBulk]
    show sl ≤ _
    omega

set_option maxRecDepth 100000 in
theorem afters_lifted (os : Os) (started : os.Started) (H : Type) (enc : TypeId × Value → H) (F : Stop.Interp) :
    ReturnsInHanded {} Try.checked os 7 .any ((Rows.OpenSpec.upto Rows.adiskAftersSpec).pre6 enc Try.prog Try.f7 Rows.adiskAftersUptoRow.domain false) (((Rows.OpenSpec.upto Rows.adiskAftersSpec).at F).post enc Try.prog Try.f7 false true false false) := by
  refine lifted_upto (C := Try.checked) (P := Try.prog) (s := Rows.adiskAftersSpec) (tb := 4) rfl Try.own started (by kernel_rfl) Try.func7
    (OpenSpec.witness (enc := enc) (C := Try.checked) (s := Rows.OpenSpec.upto Rows.adiskAftersSpec) (k := Rows.uptoSmall) rfl false ⟨#[], #[.slice none 0 0, .slice none 0 0, .slice none 0 0], []⟩ 8 (by kernel_rfl) (by kernel_rfl) (by kernel_rfl)
      (x := ([.nil, .nil, .nil], [], [])) (by kernel_rfl) rfl (by kernel_rfl))
    Try.laidOut (by kernel_rfl) (by kernel_rfl) Try.underlying4 rfl ?_ ?_
  · intro ds hl
    rw [Try.params7] at hl
    match ds, hl with
    | [_, _, _], _ => exact ⟨rfl, rfl, rfl⟩
  · intro W base args ds ps hval hA hsz
    rw [Try.params7] at hA hval
    obtain ⟨v0, v1, v2, d0, d1, d2, p0, p1, p2, rfl, rfl, rfl, h0, h1, h2⟩ := trodAll_three hA
    obtain ⟨a, l, c, bs, rfl, B, hlc, room⟩ := open_bytes Try.underlying22 Try.underlying5 Try.cells5 (hval 0 22 v0 rfl rfl) h0
    obtain ⟨a1, l1, c1, es, rfl, B1, he, hlc1, room1, hq⟩ := open_rowQ (α := Ad.Ent) Ad.Ent.cells (ActQ W) (fun _ => rfl) Try.underlying60 Try.cells70 (hval 1 60 v1 rfl rfl) h1 one_act
    obtain ⟨a2, l2, c2, ys, rfl, B2, hy, hlc2, room2⟩ := open_row (α := Bool) (fun b => [Value.bool b]) (fun _ => rfl) Try.underlying46 Try.cells4 (hval 2 46 v2 rfl rfl) h2 one_bool
    rw [flat_map1] at B2
    have m0 := room_bulk room
    have m1 := room_bulk room1
    have m2 := room_bulk room2
    simp only [Rows.uptoBulkAll] at hsz
    obtain ⟨ts, htl, hts⟩ := pick_list (p := fun i (t : L3.Tt) => ∀ (hi : i < es.length), es[i].kind = t.1 ∧ es[i].at_ = t.2.1 ∧ StrAt W.heap es[i].a es[i].l t.2.2) es.length fun i hi => by
      obtain ⟨_, _, bs, S, _⟩ := hq i hi
      exact ⟨(es[i].kind, es[i].at_, bs), fun _ => ⟨rfl, rfl, S⟩⟩
    refine L3.AdiskAfters_spec B (by omega) ⟨B1, by omega, htl.symm, fun i g1 g2 => hts i g2 g1⟩ (by omega) (fun t ht => ?_) B2 hy (by omega) true_mk
    obtain ⟨i, hi, rfl⟩ := List.mem_iff_getElem.mp ht
    obtain ⟨y, hby, bs', _, hle⟩ := hq i (by omega)
    have := (hts i hi (by omega)).2.2.1
    omega

theorem adiskAfters_holds : Rows.AdiskAftersUptoSaid :=
  OpenClaim.holds_of_cond 7 Try.f7 rfl rfl rfl rfl rfl rfl rfl ⟨rfl, rfl, rfl, rfl, rfl⟩ rfl rfl rfl rfl rfl (by kernel_rfl) Try.func7 (by kernel_rfl)
    (of_decide_eq_true (by kernel_rfl)) (by unfold Func.isWrapper; first | (rw [if_pos (by decide +kernel)]; kernel_rfl) | (rw [if_neg (by decide +kernel)]; exact ⟨rfl, rfl⟩))
    (fun os started H enc _ F => afters_lifted os started H enc F)
end Go.Proofs.Ytnbfaokpaiiojaa
