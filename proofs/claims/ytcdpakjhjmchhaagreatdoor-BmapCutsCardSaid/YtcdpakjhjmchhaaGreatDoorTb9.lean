/-
  A CASE OF bolelaw10 (Setup) AS AN ARGUMENT.
-/
import Derived.Test.YtcdpakjhjmchhaaGreatDoorTb8
import Derived.Test.YtcdpakjhjmchhaaGreatDoorBmK
namespace Go.Proofs.YtcdpakjhjmchhaaGreatDoor
open Go Go.ChangeShapes Go.WideShapes Go.ChangeAt Go.RowKit Go.Proofs.YtcdpakjhjmchhaaGreatDoor.Wx Go.Proofs.YtcdpakjhjmchhaaGreatDoor.Hp Go.Proofs.YtcdpakjhjmchhaaGreatDoor.Gl

theorem Tryz.cellsInts : Tryz.prog.cellsOf 22 = 1 := by kernel_rfl
theorem Tryz.cellsRaws : Tryz.prog.cellsOf 39 = 1 := by kernel_rfl
theorem Tryz.cellsRaw : Tryz.prog.cellsOf 202 = 2 := by kernel_rfl
theorem Tryz.cellsBytes : Tryz.prog.cellsOf 33 = 1 := by kernel_rfl
theorem Tryz.cellsByte : Tryz.prog.cellsOf 5 = 1 := by kernel_rfl
theorem Tryz.cellsSetup : Tryz.prog.cellsOf 41 = 3 := by kernel_rfl
theorem Tryz.bytesRaw : Tryz.prog.bytesOf 202 = 32 := by kernel_rfl
theorem Tryz.cellsPair : Tryz.prog.cellsOf 56 = 2 := by kernel_rfl
set_option maxRecDepth 100000 in
theorem one_raw {H : Type} {enc : TypeId × Value → H} {W : World} (n : Nat) (cs : List Value) (y : DataW H × List MemPlace) (h : DataW.trod enc Tryz.prog W 0 (fun _ => true) true n 202 cs = some y) : ∃ x : Bm.RawI, cs = x.v ∧ StrAt W.heap x.a x.l x.bs := by
  obtain ⟨y0, y1, k, _, hl, h0, h1⟩ := trod_struct2 Tryz.underlying202 h
  rw [Tryz.cellsRaw] at hl
  simp only [Tryz.cellsInt, Tryz.cellsBytes] at h0 h1
  match cs, hl with
  | [a, b], _ =>
    obtain ⟨n0, e0, _, _⟩ := DataW.trod_int Tryz.underlying3 h0
    obtain ⟨ba, bl, bc, bs, e1, B, _, _⟩ := inner_bytes Tryz.underlying33 Tryz.underlying5 Tryz.cellsByte h1
    have e0 : a = .int .i64 n0 := by simpa using e0
    have e1 : b = .slice ba bl bc := by simpa using e1
    exact ⟨⟨n0, ba, bl, bc, bs⟩, by rw [e0, e1]; rfl, B⟩
set_option maxRecDepth 100000 in
theorem open_setup {H : Type} {enc : TypeId × Value → H} {W : World} {base : Nat} {v : Value} {d : DataW H} {p : List MemPlace} (hval : Value.okWide Tryz.prog W .any base 41 v) (h : DataW.Trod enc Tryz.prog W 0 (fun _ => true) true 41 v d p) (L : Light Tryz.prog 41 d) :
    ∃ more ta tc ra rc, ∃ ks : List Int, ∃ rs : List Bm.RawI, v = .agg ⟨Bm.setupV more ta ks.length tc ra rs.length rc⟩ ∧ SlCells W.heap ta (Hd.ints ks) ∧ SlCells W.heap ra (rs.flatMap Bm.RawI.v) ∧ (∀ r ∈ rs, StrAt W.heap r.a r.l r.bs) ∧ ks.length ≤ 140737488355328 ∧ rs.length ≤ 140737488355328 := by
  obtain ⟨cs, rfl, _⟩ := okWide_struct Tryz.underlying41 hval
  obtain ⟨fuel, hf⟩ := h
  obtain ⟨xs, n, _, hd, hl, hlen, hf⟩ := DataW.trod_struct Tryz.underlying41 hf
  rw [Tryz.cellsSetup] at hl
  match xs, hlen with
  | [y0, y1, y2], _ =>
    have h0 : DataW.trod enc Tryz.prog W 0 (fun _ => true) true n 3 (List.take (Tryz.prog.cellsOf 3) (List.drop 0 _)) = some y0 := hf 0 _ rfl
    have h1 : DataW.trod enc Tryz.prog W 0 (fun _ => true) true n 22 (List.take (Tryz.prog.cellsOf 22) (List.drop 1 _)) = some y1 := hf 1 _ rfl
    have h2 : DataW.trod enc Tryz.prog W 0 (fun _ => true) true n 39 (List.take (Tryz.prog.cellsOf 39) (List.drop 2 _)) = some y2 := hf 2 _ rfl
    have ed : d = .agg [y0.1, y1.1, y2.1] := by
      have := congrArg Prod.fst hd
      simpa using this
    rw [ed] at L
    simp only [Tryz.cellsInt, Tryz.cellsInts, Tryz.cellsRaws] at h0 h1 h2
    obtain ⟨cl⟩ := cs
    match cl, hl with
    | [c0, c1, c2], _ =>
      obtain ⟨n0, e0, _, _⟩ := DataW.trod_int Tryz.underlying3 h0
      obtain ⟨ta, tl, tc, ks, e1, K1, k1, k2, r1⟩ := inner_intsR Tryz.underlying22 Tryz.underlying3 Tryz.cellsInt h1
      obtain ⟨ra, rl, rc, rs, e2, K2, q1, q2, r2, hq⟩ := inner_rowW (α := Bm.RawI) Bm.RawI.v (fun _ x => StrAt W.heap x.a x.l x.bs) (fun _ => rfl) Tryz.underlying39 Tryz.cellsRaw h2 one_raw
      have L1 : Light Tryz.prog 22 y1.1 := fun w hw => L w (weight_part (j := 1) Tryz.underlying41 rfl rfl hw)
      have L2 : Light Tryz.prog 39 y2.1 := fun w hw => L w (weight_part (j := 2) Tryz.underlying41 rfl rfl hw)
      have m1 := light_room L1 Tryz.underlying22 r1
      have m2 := light_room L2 Tryz.underlying39 r2
      rw [Tryz.bytesInt] at m1
      rw [Tryz.bytesRaw] at m2
      have e0 : [c0] = [.int .i64 n0] := e0
      have e1 : [c1] = [.slice ta tl tc] := e1
      have e2 : [c2] = [.slice ra rl rc] := e2
      have e0 := (List.cons.inj e0).1
      have e1 := (List.cons.inj e1).1
      have e2 := (List.cons.inj e2).1
      refine ⟨n0, ta, tc, ra, rc, ks, rs, by rw [e0, e1, e2, k1, q1]; rfl, K1, K2, fun r hr => ?_, by omega, by omega⟩
      obtain ⟨i, hi, rfl⟩ := List.mem_iff_getElem.mp hr
      obtain ⟨z, _, B⟩ := hq i hi
      exact B
theorem okWide_array {P : Program} {W : World} {r : Reach} {base : Nat} {t e : TypeId} {n : Nat} {v : Value} (ht : P.underlying t = some (.array n e)) (h : Value.okWide P W r base t v) : ∃ cs, v = .agg cs ∧ cs.size = P.cellsOf t := by
  simp only [Value.okWide, ht] at h
  obtain ⟨cs, h1, h2, _⟩ := h
  exact ⟨cs, h1, h2⟩
set_option maxRecDepth 100000 in
theorem open_two {H : Type} {enc : TypeId × Value → H} {W : World} {base : Nat} {v : Value} {d : DataW H} {p : List MemPlace} (hval : Value.okWide Tryz.prog W .any base 56 v) (h : DataW.Trod enc Tryz.prog W 0 (fun _ => true) true 56 v d p) :
    ∃ t0 t1 : Int, v = .agg ⟨Hd.ints [t0, t1]⟩ := by
  obtain ⟨cs, rfl, _⟩ := okWide_array Tryz.underlying56 hval
  obtain ⟨fuel, hf⟩ := h
  obtain ⟨ns, e, l⟩ := ints_arr Tryz.underlying56 Tryz.underlying3 Tryz.cellsInt Tryz.cellsPair hf
  obtain ⟨cl⟩ := cs
  have e : cl = Hd.ints ns := e
  match ns, l with
  | [t0, t1], _ => exact ⟨t0, t1, by rw [e]⟩
end Go.Proofs.YtcdpakjhjmchhaaGreatDoor
