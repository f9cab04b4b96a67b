/-
  WHAT WalAtomic IS HANDED: two rows of puts, a crash, a row of crashes.
-/
import Derived.Test.YtpleolmalbdpnaaDoorTb5
import Derived.Test.YtpleolmalbdpnaaDoorWaB
namespace Go.Proofs.YtpleolmalbdpnaaDoor
open Go Go.ChangeShapes Go.WideShapes Go.ChangeAt Go.RowKit Go.Proofs.YtpleolmalbdpnaaDoor.Wx Go.Proofs.YtpleolmalbdpnaaDoor.Hp Go.Proofs.YtpleolmalbdpnaaDoor.Gl

theorem Tryd.cellsBools : Tryd.prog.cellsOf 55 = 1 := by kernel_rfl
theorem Tryd.cellsCrash : Tryd.prog.cellsOf 57 = 2 := by kernel_rfl
theorem Tryd.cellsTwoPuts : Tryd.prog.cellsOf 54 = 2 := by kernel_rfl
theorem Tryd.bytesBool : Tryd.prog.bytesOf 4 = 1 := by kernel_rfl
theorem Tryd.bytesCrash : Tryd.prog.bytesOf 57 = 32 := by kernel_rfl
theorem one_bool {H : Type} {enc : TypeId × Value → H} {W : World} (n : Nat) (cs : List Value) (y : DataW H × List MemPlace) (h : DataW.trod enc Tryd.prog W 0 (fun _ => true) true n 4 cs = some y) : ∃ x : Bool, cs = [Value.bool x] ∧ True := by
  obtain ⟨b, e, _⟩ := DataW.trod_bool Tryd.underlying4 h
  exact ⟨b, e, trivial⟩
def KeepW {H : Type} (W : World) (d : DataW H) (s : Hd.Sc) : Prop := (∃ ks : List Bool, SlCells W.heap s.a (ks.map .bool) ∧ ks.length = s.l) ∧ s.l ≤ s.c ∧ Room d s.c
theorem one_keep {H : Type} {enc : TypeId × Value → H} {W : World} (n : Nat) (cs : List Value) (y : DataW H × List MemPlace) (h : DataW.trod enc Tryd.prog W 0 (fun _ => true) true n 55 cs = some y) : ∃ x : Hd.Sc, cs = [x.v] ∧ KeepW W y.1 x := by
  obtain ⟨a, l, c, xs, e1, e2, e3, e4, e5, _⟩ := inner_rowW (α := Bool) (fun b => [Value.bool b]) (fun _ _ => True) (fun _ => rfl) Tryd.underlying55 Tryd.cellsBool h one_bool
  rw [flat_map1] at e2
  exact ⟨⟨a, l, c⟩, e1, ⟨xs, e2, e3⟩, e4, e5⟩
def CrW {H : Type} (W : World) (d : DataW H) (x : Wc.Cr) : Prop := x.1 ≤ 9223372036854775807 ∧ ∃ z : DataW H, (∀ k ∈ z.weights Tryd.prog 55, k ∈ d.weights Tryd.prog 57) ∧ KeepW W z x.2
theorem one_crash {H : Type} {enc : TypeId × Value → H} {W : World} (n : Nat) (cs : List Value) (y : DataW H × List MemPlace) (h : DataW.trod enc Tryd.prog W 0 (fun _ => true) true n 57 cs = some y) : ∃ x : Wc.Cr, cs = Wc.crV x ∧ CrW W y.1 x := by
  obtain ⟨y0, y1, k, e, hl, h0, h1⟩ := trod_struct2 Tryd.underlying57 h
  rw [Tryd.cellsCrash] at hl
  simp only [Tryd.cellsInt, Tryd.cellsBools] at h0 h1
  subst e
  match cs, hl with
  | [a, b], _ =>
    obtain ⟨n0, e0, _, w0⟩ := DataW.trod_int Tryd.underlying3 h0
    obtain ⟨s, e1, q⟩ := one_keep _ _ _ h1
    have e0 : a = .int .i64 n0 := by simpa using e0
    have e1 : [b] = [s.v] := e1
    have e1 : b = s.v := by simpa using e1
    refine ⟨(n0, s), by rw [e0, e1]; rfl, (int_range w0).2, y1.1, fun k hk => weight_part Tryd.underlying57 (j := 1) rfl rfl hk, q⟩
theorem keep_max {H : Type} {W : World} {d : DataW H} {s : Hd.Sc} (L : Light Tryd.prog 55 d) (q : KeepW W d s) : ∃ ks : List Bool, SlCells W.heap s.a (ks.map .bool) ∧ ks.length = s.l ∧ s.l ≤ 140737488355328 := by
  obtain ⟨⟨ks, e1, e2⟩, e3, r⟩ := q
  have w := light_room L Tryd.underlying55 r
  rw [Tryd.bytesBool] at w
  exact ⟨ks, e1, e2, by omega⟩
set_option maxRecDepth 100000 in
theorem open_crash {H : Type} {enc : TypeId × Value → H} {W : World} {base : Nat} {v : Value} {d : DataW H} {p : List MemPlace} (hval : Value.okWide Tryd.prog W .any base 57 v) (h : DataW.Trod enc Tryd.prog W 0 (fun _ => true) true 57 v d p) (L : Light Tryd.prog 57 d) :
    ∃ n ka kl kc, ∃ ks : List Bool, v = .agg ⟨[.int .i64 n, .slice ka kl kc]⟩ ∧ n ≤ 9223372036854775807 ∧ SlCells W.heap ka (ks.map .bool) ∧ ks.length = kl ∧ kl ≤ 140737488355328 := by
  obtain ⟨cs, rfl, hs⟩ := okWide_struct Tryd.underlying57 hval
  obtain ⟨fuel, hf⟩ := h
  obtain ⟨x, e, hx, z, hz, q⟩ := one_crash _ _ _ hf
  obtain ⟨ks, e1, e2, e3⟩ := keep_max (fun w hw => L w (hz w hw)) q
  have e : cs.toList = Wc.crV x := e
  refine ⟨x.1, x.2.a, x.2.l, x.2.c, ks, ?_, hx, e1, e2, e3⟩
  rw [← Array.toArray_toList (xs := cs), e]; rfl
set_option maxRecDepth 100000 in
theorem open_crashes {H : Type} {enc : TypeId × Value → H} {W : World} {base : Nat} {v : Value} {d : DataW H} {p : List MemPlace} (hval : Value.okWide Tryd.prog W .any base 58 v) (h : DataW.Trod enc Tryd.prog W 0 (fun _ => true) true 58 v d p) (L : Light Tryd.prog 58 d) :
    ∃ la ll lc, ∃ ps : List Wc.Cr, ∃ ks : List (List Bool), v = .slice la ll lc ∧ ps.length = ll ∧ Wc.Crs W.heap la ps ks := by
  obtain ⟨a, l, c, ps, rfl, D, hdl, hlc, r, hq⟩ := open_rowW (α := Wc.Cr) Wc.crV (CrW W) (fun _ => rfl) Tryd.underlying58 Tryd.cellsCrash hval h one_crash
  have w0 := light_room L Tryd.underlying58 r
  rw [Tryd.bytesCrash] at w0
  obtain ⟨ks, hbl, hbs⟩ := pick_list (p := fun i (ks : List Bool) => ∀ (hi : i < ps.length), ps[i].1 ≤ 9223372036854775807 ∧ SlCells W.heap ps[i].2.a (ks.map .bool) ∧ ks.length = ps[i].2.l ∧ ps[i].2.l ≤ 140737488355328) ps.length fun i hi => by
    obtain ⟨z, hz, hx, z2, hz2, q⟩ := hq i hi
    obtain ⟨ks, e1, e2, e3⟩ := keep_max (fun w hw => L w (hz w (hz2 w hw))) q
    exact ⟨ks, fun _ => ⟨hx, e1, e2, e3⟩⟩
  exact ⟨a, l, c, ps, ks, rfl, hdl, D, hbl, by omega, fun i h1 h2 => hbs i h2 h1⟩
theorem okWide_array {P : Program} {W : World} {r : Reach} {base : Nat} {t e : TypeId} {n : Nat} {v : Value} (ht : P.underlying t = some (.array n e)) (h : Value.okWide P W r base t v) : ∃ cs, v = .agg cs ∧ cs.size = P.cellsOf t := by
  simp only [Value.okWide, ht] at h
  obtain ⟨cs, h1, h2, _⟩ := h
  exact ⟨cs, h1, h2⟩
theorem weight_arr {H : Type} {P : Program} {t e : TypeId} {n : Nat} {es : List (DataW H)} {y : DataW H} {w : Nat} (ht : P.underlying t = some (.array n e)) (hy : y ∈ es) (hw : w ∈ y.weights P e) : w ∈ (DataW.agg es).weights P t := by
  simp only [DataW.weights, ht]
  exact weight_all hw hy
theorem puts_max {H : Type} {W : World} {d : DataW H} {s : Hd.Sc} (L : Light Tryd.prog 31 d) (q : PutsW W d s) : ∃ ps : List Wc.Pt, SlCells W.heap s.a (ps.flatMap Wc.ptV) ∧ ps.length = s.l ∧ s.l ≤ 140737488355328 := by
  obtain ⟨⟨ks, e1, e2⟩, e3, r⟩ := q
  have w := light_room L Tryd.underlying31 r
  rw [Tryd.bytesPut5] at w
  exact ⟨ks, e1, e2, by omega⟩
set_option maxRecDepth 100000 in
theorem open_two {H : Type} {enc : TypeId × Value → H} {W : World} {base : Nat} {v : Value} {d : DataW H} {p : List MemPlace} (hval : Value.okWide Tryd.prog W .any base 54 v) (h : DataW.Trod enc Tryd.prog W 0 (fun _ => true) true 54 v d p) (L : Light Tryd.prog 54 d) :
    ∃ s0 s1 : Hd.Sc, ∃ q0 q1 : List Wc.Pt, v = .agg ⟨[s0.v, s1.v]⟩ ∧ (SlCells W.heap s0.a (q0.flatMap Wc.ptV) ∧ q0.length = s0.l ∧ s0.l ≤ 140737488355328) ∧ (SlCells W.heap s1.a (q1.flatMap Wc.ptV) ∧ q1.length = s1.l ∧ s1.l ≤ 140737488355328) := by
  obtain ⟨cs, rfl, hs⟩ := okWide_array Tryd.underlying54 hval
  obtain ⟨fuel, hf⟩ := h
  obtain ⟨xs, m, _, ex, hl, hlen, hi⟩ := DataW.trod_array Tryd.underlying54 hf
  rw [Tryd.cellsTwoPuts] at hl
  rw [Tryd.cellsPuts5] at hi
  have ed : d = .agg (xs.map (·.1)) := congrArg Prod.fst ex
  subst ed
  have hl : cs.toList.length = 2 := hl
  match xs, hlen with
  | [y0, y1], _ =>
    have g0 := hi 0 (by decide)
    have g1 := hi 1 (by decide)
    have ec : ((Value.agg cs).cells).toList = cs.toList := rfl
    rw [ec] at g0 g1
    obtain ⟨u, v, e2⟩ : ∃ u v, cs.toList = [u, v] := by
      match hc : cs.toList, hl with
      | [u, v], _ => exact ⟨u, v, rfl⟩
    rw [e2] at g0 g1
    obtain ⟨s0, e0, w0⟩ := one_puts _ _ _ g0
    obtain ⟨s1, e1, w1⟩ := one_puts _ _ _ g1
    obtain ⟨q0, a1, a2, a3⟩ := puts_max (fun w hw => L w (weight_arr Tryd.underlying54 (List.mem_cons_self) hw)) w0
    obtain ⟨q1, b1, b2, b3⟩ := puts_max (fun w hw => L w (weight_arr Tryd.underlying54 (List.mem_cons_of_mem _ List.mem_cons_self) hw)) w1
    refine ⟨s0, s1, q0, q1, ?_, ⟨a1, a2, a3⟩, b1, b2, b3⟩
    have e0 : [u] = [s0.v] := e0
    have e1 : [v] = [s1.v] := e1
    rw [← Array.toArray_toList (xs := cs), e2, List.cons.inj e0 |>.1, List.cons.inj e1 |>.1]
end Go.Proofs.YtpleolmalbdpnaaDoor
