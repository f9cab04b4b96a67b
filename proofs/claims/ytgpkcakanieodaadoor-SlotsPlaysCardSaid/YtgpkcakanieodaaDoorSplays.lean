/-
  THE ROW AND THE CARD OF SlotsPlays.
-/
import Derived.Test.YtgpkcakanieodaaDoorTb3
import Derived.Test.YtgpkcakanieodaaDoorSlK
namespace Go.Proofs.YtgpkcakanieodaaDoor
open Go Go.ChangeShapes Go.WideShapes Go.ChangeAt Go.RowKit Go.Proofs.YtgpkcakanieodaaDoor.Wx Go.Proofs.YtgpkcakanieodaaDoor.Hp Go.Proofs.YtgpkcakanieodaaDoor.Gl

theorem one_op {H : Type} {enc : TypeId × Value → H} {W : World} (n : Nat) (cs : List Value) (y : DataW H × List MemPlace) (h : DataW.trod enc Tryd.prog W 0 (fun _ => true) true n 32 cs = some y) : ∃ x : Ss.OpR, cs = Ss.OpR.v x := by
  obtain ⟨y0, y1, y2, y3, k, _, hl, h0, h1, h2, h3⟩ := Go.Joins.trod_struct4 Tryd.underlying32 h
  rw [Tryd.cellsOp] at hl
  simp only [Tryd.cellsInt, Tryd.cellsEntry, Tryd.cellsByte] at h0 h1 h2 h3
  match cs, hl with
  | [a, b, c, d, e, f], _ =>
    obtain ⟨n0, e0, _, _⟩ := DataW.trod_int Tryd.underlying3 h0
    obtain ⟨x, e1, _⟩ := one_entry _ _ _ h1
    obtain ⟨n2, e2, _, _⟩ := DataW.trod_int Tryd.underlying3 h2
    obtain ⟨n3, e3, _, w3⟩ := DataW.trod_int Tryd.underlying5 h3
    have e0 : a = .int .i64 n0 := by simpa using e0
    have e1 : [b, c, d] = Ss.E.v x := e1
    have e2 : e = .int .i64 n2 := by simpa using e2
    have e3 : f = .int .u8 n3 := by simpa using e3
    refine ⟨⟨n0, x, n2, UInt8.ofNat n3.toNat⟩, ?_⟩
    show a :: ([b, c, d] ++ [e, f]) = _
    rw [e0, e1, e2, e3, Ss.OpR.v, bv_of w3]
theorem laid_met (os : Os) : laidMet Tryd.prog Rows.slotsPlaysRow.laid ((laidWorld os).forCall (fun _ _ => 0) ⟨#[], #[.slice none 0 0, .slice none 0 0], []⟩).memory :=
  laidMet_of_run' 8 (by kernel_rfl) (by kernel_rfl)
theorem reads (os : Os) {H : Type} (enc : TypeId × Value → H) : ∃ places, DataW.whole enc Tryd.prog ((laidWorld os).forCall (fun _ _ => 0) ⟨#[], #[.slice none 0 0, .slice none 0 0], []⟩).memory Tryd.f3.params.toList Rows.slotsPlaysSpec.vars false #[Value.slice none 0 0, .slice none 0 0].toList 8 = some ([.nil, .nil], [], places) :=
  ⟨[], by kernel_rfl⟩
set_option maxRecDepth 100000 in
theorem plays_lifted (os : Os) (started : os.Started) (H : Type) (enc : TypeId × Value → H) (F : Stop.Interp) :
    ReturnsInHanded {} Tryd.checked os 3 .any ((OpenSpec.ofChange Rows.slotsPlaysSpec).preRow enc Tryd.prog Tryd.f3 Rows.slotsPlaysRow.domain false Rows.slotsPlaysRow.laid) (((OpenSpec.ofChange Rows.slotsPlaysSpec).at F).post enc Tryd.prog Tryd.f3 false true false false) := by
  obtain ⟨places, hx⟩ := reads os enc
  refine lifted_row (C := Tryd.checked) (P := Tryd.prog) (s := Rows.slotsPlaysSpec) (tb := 4) rfl Tryd.own started (by kernel_rfl) Tryd.func3
    (witness_row_at (enc := enc) (C := Tryd.checked) false (laidWorld os) #[.slice none 0 0, .slice none 0 0] rfl (by kernel_rfl) (by kernel_rfl) (by kernel_rfl)
      (OpenSpec.preRow_of_cond 8 hx (by kernel_rfl) (fun k hk => by cases hk) (by kernel_rfl) (laid_met os)))
    Tryd.laidOut (by kernel_rfl) (by kernel_rfl) Tryd.underlying4 rfl ?_ ?_
  · intro ds hl
    rw [Tryd.params3] at hl
    match ds, hl with
    | [_, _], _ => exact ⟨rfl, rfl, rfl⟩
  · intro W base args ds ps hval hA hsz hL
    rw [Tryd.params3] at hA hval hsz
    obtain ⟨v0, v1, d0, d1, p0, p1, rfl, rfl, rfl, h0, h1⟩ := trodAll_two hA
    obtain ⟨a, l, c, bs, rfl, B, hlc, room⟩ := open_bytes Tryd.underlying22 Tryd.underlying5 Tryd.cellsByte (hval 0 22 v0 rfl rfl) h0
    obtain ⟨a1, l1, c1, ops, rfl, S, hops, hlc1, room1⟩ := open_row (α := Ss.OpR) Ss.OpR.v (fun _ => rfl) Tryd.underlying23 Tryd.cellsOp (hval 1 23 v1 rfl rfl) h1 one_op
    have m0 := room_le hsz (j := 0) (t := 22) (e := 5) room rfl rfl Tryd.underlying22
    have m1 := room_le hsz (j := 1) (t := 23) (e := 32) room1 rfl rfl Tryd.underlying23
    rw [Tryd.bytesByte] at m0
    rw [Tryd.bytesOp] at m1
    exact Ss.SlotsPlays_spec (tables hL) B (by omega) S hops (by omega) true_mk
theorem plays_said : Rows.SlotsPlaysSaid :=
  OpenClaim.holds_of_cond 3 Tryd.f3 rfl rfl rfl rfl rfl rfl rfl ⟨rfl, rfl, rfl, rfl, rfl⟩ rfl rfl rfl rfl rfl (by kernel_rfl) Tryd.func3 (by kernel_rfl)
    (of_decide_eq_true (by kernel_rfl)) (by unfold Func.isWrapper; first | (rw [if_pos (by decide +kernel)]; kernel_rfl) | (rw [if_neg (by decide +kernel)]; exact ⟨rfl, rfl⟩))
    (fun os started H enc _ F => by rw [OpenClaim.pre_eq_preRow]; exact plays_lifted os started H enc F)
theorem plays_plain (f : FuncId) (fn : Func) (hf : Tryd.pinned.checked.prog.funcNamed "bole/bolelaw14.SlotsPlays" = some f) (hfn : Tryd.pinned.checked.prog.funcs[f]? = some fn) :
    false = Tryd.pinned.checked.prog.looks [] ∧ ∀ (j : Nat) t, fn.params[j]? = some t → Tryd.pinned.checked.prog.wantsStandIn t = false := by
  obtain rfl : f = 3 := Option.some.inj ((show Tryd.prog.funcNamed "bole/bolelaw14.SlotsPlays" = some 3 by kernel_rfl).symm.trans hf) |>.symm
  obtain rfl : fn = Tryd.f3 := (Option.some.inj (Tryd.func3.symm.trans hfn)).symm
  refine ⟨by kernel_rfl, fun j t ht => ?_⟩
  rw [Tryd.params3] at ht
  have := Array.mem_of_getElem? ht
  have : t = 22 ∨ t = 23 := by simpa using this
  rcases this with rfl | rfl
  · exact (show Tryd.prog.wantsStandIn 22 = false by kernel_rfl)
  · exact (show Tryd.prog.wantsStandIn 23 = false by kernel_rfl)
theorem slotsPlays_card : Rows.SlotsPlaysCardSaid :=
  Claim7.holds_tied_plain_at .later [] _ _ _ _ plays_said (fun _ h => by cases h) (by kernel_rfl) (fun _ h => by cases h) slotsPlays_row_tie rfl ⟨rfl, rfl⟩ (by kernel_rfl) rfl plays_plain (by kernel_rfl)
end Go.Proofs.YtgpkcakanieodaaDoor
