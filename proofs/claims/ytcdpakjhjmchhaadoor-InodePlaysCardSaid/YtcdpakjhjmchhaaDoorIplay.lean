/-
  THE ROW AND THE CARD OF InodePlays.
-/
import Derived.Test.YtcdpakjhjmchhaaDoorTb8
import Derived.Test.YtcdpakjhjmchhaaDoorIpB
namespace Go.Proofs.YtcdpakjhjmchhaaDoor
open Go Go.ChangeShapes Go.WideShapes Go.ChangeAt Go.RowKit Go.Proofs.YtcdpakjhjmchhaaDoor.Wx Go.Proofs.YtcdpakjhjmchhaaDoor.Hp Go.Proofs.YtcdpakjhjmchhaaDoor.Gl

theorem Tryd.cellsOp : Tryd.prog.cellsOf 76 = 19 := by kernel_rfl
theorem Tryd.bytesOp : Tryd.prog.bytesOf 76 = 152 := by kernel_rfl
theorem Tryd.cellsByte : Tryd.prog.cellsOf 5 = 1 := by kernel_rfl
theorem Tryd.bytesByte : Tryd.prog.bytesOf 5 = 1 := by kernel_rfl
set_option maxRecDepth 100000 in
theorem one_iop {H : Type} {enc : TypeId × Value → H} {W : World} (n : Nat) (cs : List Value) (y : DataW H × List MemPlace) (h : DataW.trod enc Tryd.prog W 0 (fun _ => true) true n 76 cs = some y) : ∃ o : Rx.OpI, cs = o.v ∧ o.R.length = 15 := by
  obtain ⟨xs, n, _, _, hl, hlen, hf⟩ := DataW.trod_struct Tryd.underlying76 h
  rw [Tryd.cellsOp] at hl
  match xs, hlen with
  | [y0, y1, y2, y3, y4], _ =>
    have h0 : DataW.trod enc Tryd.prog W 0 (fun _ => true) true n 3 (List.take (Tryd.prog.cellsOf 3) (List.drop 0 _)) = some y0 := hf 0 _ rfl
    have h1 : DataW.trod enc Tryd.prog W 0 (fun _ => true) true n 3 (List.take (Tryd.prog.cellsOf 3) (List.drop 1 _)) = some y1 := hf 1 _ rfl
    have h2 : DataW.trod enc Tryd.prog W 0 (fun _ => true) true n 3 (List.take (Tryd.prog.cellsOf 3) (List.drop 2 _)) = some y2 := hf 2 _ rfl
    have h3 : DataW.trod enc Tryd.prog W 0 (fun _ => true) true n 35 (List.take (Tryd.prog.cellsOf 35) (List.drop 3 _)) = some y3 := hf 3 _ rfl
    have h4 : DataW.trod enc Tryd.prog W 0 (fun _ => true) true n 5 (List.take (Tryd.prog.cellsOf 5) (List.drop 18 _)) = some y4 := hf 4 _ rfl
    simp only [Tryd.cellsInt, Tryd.cellsInode, Tryd.cellsByte] at h0 h1 h2 h3 h4
    obtain ⟨R, e3, l3⟩ := one_inode n _ _ h3
    match cs, hl with
    | [c0, c1, c2, c3, c4, c5, c6, c7, c8, c9, c10, c11, c12, c13, c14, c15, c16, c17, c18], _ =>
      obtain ⟨n0, e0, _, _⟩ := DataW.trod_int Tryd.underlying3 h0
      obtain ⟨n1, e1, _, _⟩ := DataW.trod_int Tryd.underlying3 h1
      obtain ⟨n2, e2, _, _⟩ := DataW.trod_int Tryd.underlying3 h2
      obtain ⟨n4, e4, _, w4⟩ := DataW.trod_int Tryd.underlying5 h4
      have e0 : [c0] = [.int .i64 n0] := e0
      have e1 : [c1] = [.int .i64 n1] := e1
      have e2 : [c2] = [.int .i64 n2] := e2
      have e3 : [c3, c4, c5, c6, c7, c8, c9, c10, c11, c12, c13, c14, c15, c16, c17] = Hd.ints R := e3
      have e4 : [c18] = [.int .u8 n4] := e4
      refine ⟨⟨n0, n1, n2, R, UInt8.ofNat n4.toNat⟩, ?_, l3⟩
      have : [c0, c1, c2, c3, c4, c5, c6, c7, c8, c9, c10, c11, c12, c13, c14, c15, c16, c17, c18] = [c0] ++ [c1] ++ [c2] ++ [c3, c4, c5, c6, c7, c8, c9, c10, c11, c12, c13, c14, c15, c16, c17] ++ [c18] := rfl
      rw [this, e0, e1, e2, e3, e4, Rx.OpI.v, bv_of w4]; rfl
theorem laid_met (os : Os) : laidMet Tryd.prog Rows.inodePlaysRow.laid ((laidWorld os).forCall (fun _ _ => 0) ⟨#[], #[.int .i64 0, .slice none 0 0, .slice none 0 0], []⟩).memory :=
  laidMet_of_run' 8 (by kernel_rfl) (by kernel_rfl)
theorem reads (os : Os) {H : Type} (enc : TypeId × Value → H) : ∃ places, DataW.whole enc Tryd.prog ((laidWorld os).forCall (fun _ _ => 0) ⟨#[], #[.int .i64 0, .slice none 0 0, .slice none 0 0], []⟩).memory Tryd.f6.params.toList Rows.inodePlaysSpec.vars false #[Value.int .i64 0, .slice none 0 0, .slice none 0 0].toList 8 = some ([.lit (.int .i64 0), .nil, .nil], [], places) :=
  ⟨[], by kernel_rfl⟩
set_option maxRecDepth 100000 in
theorem iplay_lifted (os : Os) (started : os.Started) (H : Type) (enc : TypeId × Value → H) (F : Stop.Interp) :
    ReturnsInHanded {} Tryd.checked os 6 .any ((OpenSpec.ofChange Rows.inodePlaysSpec).preRow enc Tryd.prog Tryd.f6 Rows.inodePlaysRow.domain false Rows.inodePlaysRow.laid) (((OpenSpec.ofChange Rows.inodePlaysSpec).at F).post enc Tryd.prog Tryd.f6 false true false false) := by
  obtain ⟨places, hx⟩ := reads os enc
  refine lifted_row (C := Tryd.checked) (P := Tryd.prog) (s := Rows.inodePlaysSpec) (tb := 4) rfl Tryd.own started (by kernel_rfl) Tryd.func6
    (witness_row_at (enc := enc) (C := Tryd.checked) false (laidWorld os) #[.int .i64 0, .slice none 0 0, .slice none 0 0] rfl (by kernel_rfl) (by kernel_rfl) (by kernel_rfl)
      (OpenSpec.preRow_of_cond 8 hx (by kernel_rfl) (fun k hk => by cases hk) (by kernel_rfl) (laid_met os)))
    Tryd.laidOut (by kernel_rfl) (by kernel_rfl) Tryd.underlying4 rfl ?_ ?_
  · intro ds hl
    rw [Tryd.params6] at hl
    match ds, hl with
    | [_, _, _], _ => exact ⟨rfl, rfl, rfl⟩
  · intro W base args ds ps hval hA hsz hL
    rw [Tryd.params6] at hA hval hsz
    obtain ⟨v0, v1, v2, d0, d1, d2, p0, p1, p2, rfl, rfl, rfl, h0, h1, h2⟩ := trodAll_three hA
    obtain ⟨n, rfl, rfl, rfl, wn⟩ := open_int Tryd.underlying3 (hval 0 3 v0 rfl rfl) h0
    obtain ⟨a1, l1, c1, bs, rfl, B1, hlc1, room1⟩ := open_bytes Tryd.underlying72 Tryd.underlying5 Tryd.cellsByte (hval 1 72 v1 rfl rfl) h1
    obtain ⟨a2, l2, c2, os, rfl, B2, hy2, hlc2, room2⟩ := open_row (α := { o : Rx.OpI // o.R.length = 15 }) (fun o => o.1.v) (fun o => by rw [Rx.OpI.len o.2]) Tryd.underlying73 Tryd.cellsOp (hval 2 73 v2 rfl rfl) h2 fun n cs y h => by
      obtain ⟨o, e, l⟩ := one_iop n cs y h
      exact ⟨⟨o, l⟩, e⟩
    have m1 := light_room (light_arg hsz (j := 1) rfl rfl) Tryd.underlying72 room1
    rw [Tryd.bytesByte] at m1
    have e1 : os.flatMap (fun o => o.1.v) = (os.map (·.1)).flatMap Rx.OpI.v := by rw [List.flatMap_map]
    rw [e1] at B2
    have l2' : (os.map (·.1)).length = l2 := by rw [List.length_map]; exact hy2
    rw [← l2']
    exact Rx.InodePlays_spec (table1 hL) B1 (by omega) B2 (fun o ho => by obtain ⟨S, _, rfl⟩ := List.mem_map.mp ho; exact S.2) true_mk
theorem iplay_said : Rows.InodePlaysSaid :=
  OpenClaim.holds_of_cond 6 Tryd.f6 rfl rfl rfl rfl rfl rfl rfl ⟨rfl, rfl, rfl, rfl, rfl⟩ rfl rfl rfl rfl rfl (by kernel_rfl) Tryd.func6 (by kernel_rfl)
    (of_decide_eq_true (by kernel_rfl)) (by unfold Func.isWrapper; first | (rw [if_pos (by decide +kernel)]; kernel_rfl) | (rw [if_neg (by decide +kernel)]; exact ⟨rfl, rfl⟩))
    (fun os started H enc _ F => by rw [OpenClaim.pre_eq_preRow]; exact iplay_lifted os started H enc F)
theorem iplay_plain (f : FuncId) (fn : Func) (hf : Tryd.pinned.checked.prog.funcNamed "bole/bolelaw11.InodePlays" = some f) (hfn : Tryd.pinned.checked.prog.funcs[f]? = some fn) :
    false = Tryd.pinned.checked.prog.looks [] ∧ ∀ (j : Nat) t, fn.params[j]? = some t → Tryd.pinned.checked.prog.wantsStandIn t = false := by
  obtain rfl : f = 6 := Option.some.inj ((show Tryd.prog.funcNamed "bole/bolelaw11.InodePlays" = some 6 by kernel_rfl).symm.trans hf) |>.symm
  obtain rfl : fn = Tryd.f6 := (Option.some.inj (Tryd.func6.symm.trans hfn)).symm
  refine ⟨by kernel_rfl, fun j t ht => ?_⟩
  rw [Tryd.params6] at ht
  have := Array.mem_of_getElem? ht
  have : t = 3 ∨ t = 72 ∨ t = 73 := by simpa using this
  rcases this with rfl | rfl | rfl
  · exact (show Tryd.prog.wantsStandIn 3 = false by kernel_rfl)
  · exact (show Tryd.prog.wantsStandIn 72 = false by kernel_rfl)
  · exact (show Tryd.prog.wantsStandIn 73 = false by kernel_rfl)
theorem inodePlays_card : Rows.InodePlaysCardSaid :=
  Claim7.holds_tied_plain_at .later [] _ _ _ _ iplay_said (fun _ h => by cases h) (by kernel_rfl) (fun _ h => by cases h) inodePlays_row_tie rfl ⟨rfl, rfl⟩ (by kernel_rfl) rfl iplay_plain (by kernel_rfl)
end Go.Proofs.YtcdpakjhjmchhaaDoor
