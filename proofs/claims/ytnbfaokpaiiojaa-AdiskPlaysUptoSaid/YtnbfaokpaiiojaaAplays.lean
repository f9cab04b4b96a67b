/-
  THE ROW OF AdiskPlays, where what comes in is of bulk at most 1048576.
-/
import Derived.Test.YtnbfaokpaiiojaaGlG
import Derived.Test.YtnbfaokpaiiojaaAfters
import Derived.Test.YtnbfaokpaiiojaaApX
namespace Go.Proofs.Ytnbfaokpaiiojaa
open Go Go.ChangeShapes Go.WideShapes Go.ChangeAt Go.RowKit Go.Proofs.Ytnbfaokpaiiojaa.Wx Go.Proofs.Ytnbfaokpaiiojaa.Hp Go.Proofs.Ytnbfaokpaiiojaa.Gl

theorem Try.cells85 : Try.prog.cellsOf 85 = 5 := by kernel_rfl
theorem Try.cells46 : Try.prog.cellsOf 46 = 1 := by kernel_rfl
theorem bulk_most {H : Type} {m : Nat} : ∀ {l : List (DataW H)}, (∀ y ∈ l, m ≤ Rows.uptoBulk y) → l.length * m ≤ Rows.uptoBulkAll l := by
  intro l
  induction l with
  | nil => intro _; simp [Rows.uptoBulkAll]
  | cons x r ih =>
    intro h
    have h1 := h x (List.mem_cons_self ..)
    have h2 := ih fun y hy => h y (List.mem_cons_of_mem _ hy)
    simp only [Rows.uptoBulkAll, List.length_cons]
    rw [Nat.succ_mul]
    omega
theorem open_rowB {α H : Type} {enc : TypeId × Value → H} {P : Program} {W : World} {base : Nat} {t e w m : Nat} {v : Value} {d : DataW H} {p : List MemPlace} (f : α → List Value) (Q : DataW H → α → Prop) (hw : ∀ x, (f x).length = w)
    (ht : P.underlying t = some (.slice e)) (hc : P.cellsOf e = w) (hval : Value.okWide P W .any base t v) (h : DataW.Trod enc P W 0 (fun _ => true) true t v d p)
    (one : ∀ n cs y, DataW.trod enc P W 0 (fun _ => true) true n e cs = some y → (∃ x, cs = f x ∧ Q y.1 x) ∧ m ≤ Rows.uptoBulk y.1) :
    ∃ a l c, ∃ xs : List α, v = .slice a l c ∧ SlCells W.heap a (xs.flatMap f) ∧ xs.length = l ∧ l ≤ c ∧ l * m ≤ Rows.uptoBulk d ∧ ∀ i (hi : i < xs.length), ∃ y, Rows.uptoBulk y ≤ Rows.uptoBulk d ∧ Q y xs[i] := by
  obtain ⟨a1, len, cap, rfl⟩ := okWide_slice ht hval
  obtain ⟨fuel, hf⟩ := h
  rcases DataW.trod_slice ht hf with ⟨hcs, hx⟩ | ⟨a, len', cap', elems, rest, n, _, hcs, hx, hb, hl, hm, hlen, hel, hsp, hns⟩
  · simp [Value.cells] at hcs
    obtain ⟨rfl, rfl, rfl⟩ := hcs
    exact ⟨none, 0, 0, [], rfl, rfl, rfl, Nat.le_refl _, by omega, fun i hi => absurd hi (Nat.not_lt_zero _)⟩
  · simp [Value.cells] at hcs
    obtain ⟨rfl, rfl, rfl⟩ := hcs
    simp only [Prod.mk.injEq] at hx
    obtain ⟨rfl, rfl⟩ := hx
    obtain ⟨hrl, _⟩ := hsp rfl
    have each : ∀ i (hi : i < len), ∃ cs, Cells W.heap (a.add (i * w)) cs ∧ (∃ x, cs = f x ∧ Q (elems[i]'(by omega)).1 x) ∧ m ≤ Rows.uptoBulk (elems[i]'(by omega)).1 := fun i hi => by
      have h1 := hel i hi
      rw [List.getElem?_eq_getElem (by omega), hc, Option.bind_eq_some_iff] at h1
      obtain ⟨cs, h2, h3⟩ := h1
      obtain ⟨hq, hm⟩ := one _ _ _ h3
      refine ⟨cs, ?_, hq, hm⟩
      obtain ⟨x, rfl, _⟩ := hq
      exact cells_of_world h2
    obtain ⟨xs, hxl, hxs⟩ := pick_list (p := fun i x => Cells W.heap (a.add ((0 + i) * w)) (f x) ∧ ∃ y ∈ elems.map (·.1), Q y x) len fun i hi => by
      obtain ⟨cs, hcl, ⟨x, rfl, hq⟩, _⟩ := each i hi
      exact ⟨x, by rw [Nat.zero_add]; exact hcl, _, List.mem_map.mpr ⟨_, List.getElem_mem (by omega), rfl⟩, hq⟩
    refine ⟨_, _, _, xs, rfl, ?_, hxl, hl, ?_, fun i hi => ?_⟩
    · have := cells_flat xs a 0 (fun x _ => hw x) fun i hi => (hxs i hi).1
      rw [Nat.zero_mul, Addr.add_zero] at this
      exact this
    · have := bulk_most (m := m) (l := elems.map (·.1)) fun y hy => by
        obtain ⟨z, hz, rfl⟩ := List.mem_map.mp hy
        obtain ⟨i, hi, rfl⟩ := List.mem_iff_getElem.mp hz
        obtain ⟨_, _, _, hm⟩ := each i (by omega)
        exact hm
      rw [List.length_map, hlen] at this
      simp only [Rows.uptoBulk]; omega
    · obtain ⟨y, hy, hq⟩ := (hxs i hi).2
      refine ⟨y, ?_, hq⟩
      have := bulk_part hy
      simp only [Rows.uptoBulk]; omega
theorem trod_struct5 {H : Type} {enc : TypeId × Value → H} {P : Program} {w : World} {base fuel : Nat} {spare : Nat → Bool} {held : Bool} {t : TypeId} {f0 f1 f2 f3 f4 : Field} {cs : List Value} {x : DataW H × List MemPlace} (ht : P.underlying t = some (.struct #[f0, f1, f2, f3, f4])) (h : DataW.trod enc P w base spare held fuel t cs = some x) :
    ∃ y0 y1 y2 y3 y4 n, x.1 = .agg [y0.1, y1.1, y2.1, y3.1, y4.1] ∧ cs.length = P.cellsOf t ∧ DataW.trod enc P w base spare held n f0.type ((cs.drop f0.offset).take (P.cellsOf f0.type)) = some y0 ∧
      DataW.trod enc P w base spare held n f1.type ((cs.drop f1.offset).take (P.cellsOf f1.type)) = some y1 ∧ DataW.trod enc P w base spare held n f2.type ((cs.drop f2.offset).take (P.cellsOf f2.type)) = some y2 ∧
      DataW.trod enc P w base spare held n f3.type ((cs.drop f3.offset).take (P.cellsOf f3.type)) = some y3 ∧ DataW.trod enc P w base spare held n f4.type ((cs.drop f4.offset).take (P.cellsOf f4.type)) = some y4 := by
  obtain ⟨xs, n, _, rfl, hl, hlen, hf⟩ := DataW.trod_struct ht h
  match xs, hlen with
  | [y0, y1, y2, y3, y4], _ => exact ⟨y0, y1, y2, y3, y4, n, by simp, hl, by simpa using hf 0 f0 rfl, by simpa using hf 1 f1 rfl, by simpa using hf 2 f2 rfl, by simpa using hf 3 f3 rfl, by simpa using hf 4 f4 rfl⟩
/-- a call of the script: its lists, and how long -/
def OpQ {H : Type} (W : World) (d : DataW H) (x : Ap.OpI) : Prop := ∃ (bs : List UInt8) (keep : List Bool), StrAt W.heap x.ba x.bl bs ∧ x.bl ≤ Rows.uptoBulk d ∧ SlCells W.heap x.ka (keep.map .bool) ∧ keep.length = x.kl ∧ x.kl ≤ Rows.uptoBulk d ∧ x.n ≤ 9223372036854775807
theorem one_op {H : Type} {enc : TypeId × Value → H} {W : World} (n : Nat) (cs : List Value) (y : DataW H × List MemPlace) (h : DataW.trod enc Try.prog W 0 (fun _ => true) true n 85 cs = some y) : (∃ x : Ap.OpI, cs = x.cells ∧ OpQ W y.1 x) ∧ 6 ≤ Rows.uptoBulk y.1 := by
  obtain ⟨y0, y1, y2, y3, y4, k, hy, hl, h0, h1, h2, h3, h4⟩ := trod_struct5 Try.underlying85 h
  rw [Try.cells85] at hl
  simp only [Try.cells3, Try.cells4, Try.cells22, Try.cells46] at h0 h1 h2 h3 h4
  match cs, hl with
  | [a, b, c, d, e], _ =>
    obtain ⟨n0, e0, _, _⟩ := DataW.trod_int Try.underlying3 h0
    obtain ⟨n1, e1, _⟩ := DataW.trod_bool Try.underlying4 h1
    obtain ⟨n2, e2, _, wf⟩ := DataW.trod_int Try.underlying3 h2
    obtain ⟨sa, sl, sc, bs, e3, B, hlc, room⟩ := inner_bytes Try.underlying22 Try.underlying5 Try.cells5 h3
    obtain ⟨ka, kl, kc, ks, e4, B4, hk, hkc, room4, _⟩ := inner_rowW (α := Bool) (fun b => [Value.bool b]) (fun _ _ => True) (fun _ => rfl) Try.underlying46 Try.cells4 h4 fun n cs y hh => by
      obtain ⟨x, hx⟩ := one_bool n cs y hh
      exact ⟨x, hx, trivial⟩
    rw [flat_map1] at B4
    have e0 : a = .int .i64 n0 := by simpa using e0
    have e1 : b = .bool n1 := by simpa using e1
    have e2 : c = .int .i64 n2 := by simpa using e2
    have e3 : d = .slice sa sl sc := by simpa using e3
    have e4 : e = .slice ka kl kc := by simpa using e4
    have m3 := room_bulk room
    have m4 := room_bulk room4
    have b0 := bulk_one y0.1
    have b1 := bulk_one y1.1
    have b2 := bulk_one y2.1
    have b3 := bulk_one y3.1
    have b4 := bulk_one y4.1
    have eb : Rows.uptoBulk y.1 = Rows.uptoBulk y0.1 + (Rows.uptoBulk y1.1 + (Rows.uptoBulk y2.1 + (Rows.uptoBulk y3.1 + (Rows.uptoBulk y4.1 + 0)))) + 1 := by
      rw [hy]; simp only [Rows.uptoBulk, Rows.uptoBulkAll]
    refine ⟨⟨⟨n0, n1, n2, sa, sl, sc, ka, kl, kc⟩, by rw [e0, e1, e2, e3, e4]; rfl, bs, ks, B, ?_, B4, hk, ?_, ?_⟩, by omega⟩
    · show sl ≤ _
      omega
    · show kl ≤ _
      omega
    · show n2 ≤ _
      exact (int_range wf).2

set_option maxRecDepth 100000 in
theorem plays_lifted (os : Os) (started : os.Started) (H : Type) (enc : TypeId × Value → H) (F : Stop.Interp) :
    ReturnsInHanded {} Try.checked os 8 .any ((Rows.OpenSpec.upto Rows.adiskPlaysSpec).pre6 enc Try.prog Try.f8 Rows.adiskPlaysUptoRow.domain false) (((Rows.OpenSpec.upto Rows.adiskPlaysSpec).at F).post enc Try.prog Try.f8 false true false false) := by
  refine lifted_upto (C := Try.checked) (P := Try.prog) (s := Rows.adiskPlaysSpec) (tb := 4) rfl Try.own started (by kernel_rfl) Try.func8
    (OpenSpec.witness (enc := enc) (C := Try.checked) (s := Rows.OpenSpec.upto Rows.adiskPlaysSpec) (k := Rows.uptoSmall) rfl false ⟨#[], #[.int .i64 0, .slice none 0 0, .slice none 0 0], []⟩ 8 (by kernel_rfl) (by kernel_rfl) (by kernel_rfl)
      (x := ([.lit (.int .i64 0), .nil, .nil], [], [])) (by kernel_rfl) rfl (by kernel_rfl))
    Try.laidOut (by kernel_rfl) (by kernel_rfl) Try.underlying4 rfl ?_ ?_
  · intro ds hl
    rw [Try.params8] at hl
    match ds, hl with
    | [_, _, _], _ => exact ⟨rfl, rfl, rfl⟩
  · intro W base args ds ps hval hA hsz
    rw [Try.params8] at hA hval
    obtain ⟨v0, v1, v2, d0, d1, d2, p0, p1, p2, rfl, rfl, rfl, h0, h1, h2⟩ := trodAll_three hA
    obtain ⟨n, rfl, rfl, rfl, wn⟩ := open_int Try.underlying3 (hval 0 3 v0 rfl rfl) h0
    obtain ⟨a, l, c, bs, rfl, B, hlc, room⟩ := open_bytes Try.underlying22 Try.underlying5 Try.cells5 (hval 1 22 v1 rfl rfl) h1
    obtain ⟨a1, l1, c1, xs, rfl, B1, he, hlc1, most, hq⟩ := open_rowB (α := Ap.OpI) (m := 6) Ap.OpI.cells (OpQ W) (fun _ => rfl) Try.underlying74 Try.cells85 (hval 2 74 v2 rfl rfl) h2 one_op
    have m0 := room_bulk room
    simp only [Rows.uptoBulkAll] at hsz
    subst he
    refine Ap.AdiskPlays_spec n B hlc (by omega) B1 (fun i hi => ?_) (by omega) true_mk
    obtain ⟨y, hby, bs', keep, x1, x2, x3, x4, x5, x6⟩ := hq i hi
    exact ⟨bs', keep, x1, by omega, x3, x4, by omega, x6⟩

theorem adiskPlays_holds : Rows.AdiskPlaysUptoSaid :=
  OpenClaim.holds_of_cond 8 Try.f8 rfl rfl rfl rfl rfl rfl rfl ⟨rfl, rfl, rfl, rfl, rfl⟩ rfl rfl rfl rfl rfl (by kernel_rfl) Try.func8 (by kernel_rfl)
    (of_decide_eq_true (by kernel_rfl)) (by unfold Func.isWrapper; first | (rw [if_pos (by decide +kernel)]; kernel_rfl) | (rw [if_neg (by decide +kernel)]; exact ⟨rfl, rfl⟩))
    (fun os started H enc _ F => plays_lifted os started H enc F)
end Go.Proofs.Ytnbfaokpaiiojaa
