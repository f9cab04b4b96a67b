import Derived.Test.YtpleolmalbdpnaaDoorHpE
import Derived.ProofKit
import Derived.SizedLaws
import Derived.ChangeCalls
import Derived.Deep.Strs
/-
  FROM A CALL THAT ANSWERS TRUE AND LEAVES OLD MEMORY ALONE, TO THE ROW.
-/
namespace Go.Proofs.YtpleolmalbdpnaaDoor.Gl
open Go Go.ChangeShapes Go.WideShapes Go.ChangeAt Go.RowKit Go.Proofs Go.Proofs.YtpleolmalbdpnaaDoor.Wx Go.Proofs.YtpleolmalbdpnaaDoor.Hp

theorem trodAll_below {H : Type} {enc : TypeId × Value → H} {P : Program} (hl : laidOutB P = true) {W W' : World} (hb : Below W.heap.size W W') :
    ∀ {ts : List TypeId} {vs : List Value} {ds : List (DataW H)} {ps : List MemPlace}, (∀ t ∈ ts, P.readableRec t = true ∧ t < P.types.size) → DataW.TrodAll enc P W 0 (fun _ => true) true ts vs ds ps →
      (∀ x ∈ ps, x.block < W.heap.size) → DataW.TrodAll enc P W' 0 (fun b => decide (b < W.heap.size)) true ts vs ds ps := by
  intro ts
  induction ts with
  | nil =>
    intro vs ds ps _ h _
    obtain ⟨rfl, rfl, rfl⟩ := trodAll_nil h
    exact trodAll_mk0
  | cons t ts ih =>
    intro vs ds ps hts h hlt
    match vs, ds, h with
    | v :: vs, d :: ds, ⟨p, q, h1, h2, e⟩ =>
      subst e
      obtain ⟨a1, a2⟩ := hts t (List.mem_cons_self ..)
      exact ⟨p, q, Below.trod hl a1 a2 h1 hb (fun x hx => hlt x (List.mem_append_left _ hx)), ih (fun u hu => hts u (List.mem_cons_of_mem _ hu)) h2 (fun x hx => hlt x (List.mem_append_right _ hx)), rfl⟩

/-- the law's call, as its caller sees it -/
def True_ (h : Heap) : Value → Heap → Prop := fun v h' => v = .bool true ∧ Fr No h h'
theorem true_mk {h : Heap} : ∀ h', Fr No h h' → True_ h (.bool true) h' := fun _ f => ⟨rfl, f⟩

theorem lifted_bool {H : Type} {enc : TypeId × Value → H} {C : Checked} {P : Program} (hP : C.prog = P) {os : Os} {f : FuncId} {fn : Func} {s : ChangeSpec} {tb : TypeId} {conds : List PathCond}
    (own : ownKnob P.godebug = none) (started : os.Started) (noInit : P.inits.idxOf? f = none) (hfn : P.funcs[f]? = some fn)
    (witness : ∃ (w : World) (tape : Tape) (i : Input), w.os = os ∧ (w.forCall tape i).Shaped P ∧ i.vars = [] ∧ Input.okWide P (w.forCall tape i) .any w.heap.size f i ∧
      s.pre6 enc P fn conds false (w.forCall tape i).memory i.args ∧ Assume.holds {} P (lone (Frame.enter P f i.args .normal) [] (w.forCall tape i)))
    (hl : laidOutB P = true) (hts0 : (fn.params.toList.all fun t => P.readableRec t && decide (t < P.types.size)) = true) (hr : fn.resultTypes = #[tb]) (hb : P.underlying tb = some .bool) (hvars : s.vars = [])
    (hres : ∀ ds : List (DataW H), ds.length = fn.params.toList.length → (s.fn H (ds ++ [])).results = [.lit (.bool true)] ∧ (s.fn H (ds ++ [])).args = ds ∧ (s.fn H (ds ++ [])).vars = [])
    (law : ∀ (W : World) (base : Nat) (args : Array Value) (ds : List (DataW H)) (ps : List MemPlace), (∀ (j : Nat) t v, fn.params[j]? = some t → args[j]? = some v → Value.okWide P W .any base t v) →
      DataW.TrodAll enc P W 0 (fun _ => true) true fn.params.toList args.toList ds ps → (DataW.weightsEach P fn.params.toList ds).all (· ≤ reachBytes) = true →
      HCalls P f args.toList W.heap (True_ W.heap)) :
    ReturnsInHanded {} C os f .any (s.pre6 enc P fn conds false) (s.post enc P fn false true false false) := by
  subst hP
  have hts : ∀ t ∈ fn.params.toList, C.prog.readableRec t = true ∧ t < C.prog.types.size := by
    intro t ht
    have := List.all_eq_true.mp hts0 t ht
    rw [Bool.and_eq_true] at this
    exact ⟨this.1, of_decide_eq_true this.2⟩
  refine returnsInHanded_of_change_sized (C := C) own started noInit hfn witness ?_
  intro W base args ds gs before hval hW _ hsz _
  have hW' := hW
  obtain ⟨p, q, hA, hV, rfl, _, _⟩ := hW
  rw [hvars] at hV
  obtain ⟨rfl, rfl⟩ := trodVars_none hV
  have hvt : s.plain.varTypes C.prog = [] := by
    have : s.plain.vars = [] := hvars
    simp [DataSpec.varTypes, this]
  rw [hvt, List.append_nil, List.append_nil] at hsz
  obtain ⟨_, hc⟩ := law W base args ds p hval hA hsz
  have hlen := (trodAll_length hA).2
  obtain ⟨e1, e2, e3⟩ := hres ds hlen
  simp only [List.append_nil] at hW'
  refine (hc W rfl).mono fun e W' ⟨v, he, hs, hv, hf⟩ => ?_
  subst hv
  refine ⟨_, he, ds, [], p, [], p, [], by simpa using hW', ?_, ?_, ?_, ?_, fun h => by cases h⟩
  · rw [e1, hr]; exact trodAll_mk1 (shut_bool hb true)
  · rw [e2]
    exact trodAll_below hl ⟨hs.1, hs.2.1, hs.2.2, hf.size, fun k hk => hf.same k hk (fun x => x)⟩ hts hA (fun x hx => by simpa using hW'.lt x (by simpa using hx))
  · rw [e3, hvars]; rfl
  · exact (Below.frame (⟨hs.1, hs.2.1, hs.2.2, hf.size, fun k hk => hf.same k hk (fun x => x)⟩ : Below W.heap.size W W') _)
end Go.Proofs.YtpleolmalbdpnaaDoor.Gl
/-
  WHAT AN ARGUMENT IS.
-/
namespace Go.Proofs.YtpleolmalbdpnaaDoor.Gl
open Go Go.ChangeShapes Go.WideShapes Go.ChangeAt Go.RowKit Go.Proofs Go.Proofs.YtpleolmalbdpnaaDoor.Wx Go.Proofs.YtpleolmalbdpnaaDoor.Hp

theorem int_range {n : Int} (h : (Lit.int .i64 n).wf = true) : -9223372036854775808 ≤ n ∧ n ≤ 9223372036854775807 := by
  have h1 : IntKind.i64.min = -9223372036854775808 := rfl
  have h2 : IntKind.i64.max = 9223372036854775807 := rfl
  simp only [Lit.wf, Bool.and_eq_true, decide_eq_true_eq] at h
  omega
theorem u8_range {n : Int} (h : (Lit.int .u8 n).wf = true) : 0 ≤ n ∧ n ≤ 255 := by
  have h1 : IntKind.u8.min = 0 := rfl
  have h2 : IntKind.u8.max = 255 := rfl
  simp only [Lit.wf, Bool.and_eq_true, decide_eq_true_eq] at h
  omega
theorem bv_of {n : Int} (h : (Lit.int .u8 n).wf = true) : bv (UInt8.ofNat n.toNat) = .int .u8 n := by
  have := u8_range h
  simp only [bv, Value.int.injEq, true_and, UInt8.toNat_ofNat']
  omega
/-- at most c elements -/
def Room {H : Type} (d : DataW H) (c : Nat) : Prop := c = 0 ∨ ∃ es sp, d = .slice es sp ∧ es.length + sp.length = c
theorem room_le {H : Type} {P : Program} {ts : List TypeId} {ds : List (DataW H)} (h : (DataW.weightsEach P ts ds).all (· ≤ reachBytes) = true) {j : Nat} {t e : TypeId} {d : DataW H} {c : Nat} (r : Room d c)
    (ht : ts[j]? = some t) (hd : ds[j]? = some d) (hu : P.underlying t = some (.slice e)) : c * P.bytesOf e ≤ 140737488351232 := by
  rcases r with rfl | ⟨es, sp, rfl, rfl⟩
  · omega
  · have := sized_slice h ht hd hu
    have e : reachBytes = 140737488351232 := by decide
    omega
theorem open_bytes {H : Type} {enc : TypeId × Value → H} {P : Program} {W : World} {base : Nat} {t e : TypeId} {v : Value} {d : DataW H} {p : List MemPlace}
    (ht : P.underlying t = some (.slice e)) (he : P.underlying e = some (.int .u8)) (hc : P.cellsOf e = 1) (hval : Value.okWide P W .any base t v) (h : DataW.Trod enc P W 0 (fun _ => true) true t v d p) :
    ∃ a l c bs, v = .slice a l c ∧ StrAt W.heap a l bs ∧ l ≤ c ∧ Room d c := by
  obtain ⟨a1, len, cap, rfl⟩ := okWide_slice ht hval
  obtain ⟨fuel, hf⟩ := h
  rcases open_ints ht he hc hf with ⟨hcs, hx⟩ | ⟨a, len', cap', zs, hcs, _, hl, hm, hz, hx, hcell, hwz⟩
  · simp [Value.cells] at hcs
    obtain ⟨rfl, rfl, rfl⟩ := hcs
    exact ⟨none, 0, 0, [], rfl, StrAt.nil _ _, Nat.le_refl _, Or.inl rfl⟩
  · simp [Value.cells] at hcs
    obtain ⟨rfl, rfl, rfl⟩ := hcs
    simp only [Prod.mk.injEq] at hx
    obtain ⟨rfl, rfl⟩ := hx
    simp only [if_true] at hz
    refine ⟨_, _, _, (zs.take len).map fun n => UInt8.ofNat n.toNat, rfl, ⟨by rw [List.length_map, List.length_take]; omega, ?_⟩, hl, Or.inr ⟨_, _, rfl, by simp [lits]; omega⟩⟩
    intro i u hu
    rw [List.map_map, List.getElem?_map] at hu
    rcases Nat.lt_or_ge i len with hi | hi
    · rw [List.getElem?_take_of_lt hi, List.getElem?_eq_getElem (by omega)] at hu
      simp only [Option.map_some, Option.some.injEq, Function.comp_def] at hu
      rw [bv_of (hwz _ (List.getElem_mem (by omega)))] at hu
      have := hcell i (by omega)
      simp only [List.getD, List.getElem?_eq_getElem (show i < zs.length by omega), Option.getD_some] at this
      rw [← hu]; exact this
    · rw [List.getElem?_eq_none (by rw [List.length_take]; omega)] at hu; simp at hu
end Go.Proofs.YtpleolmalbdpnaaDoor.Gl
/-
  WHAT AN ARGUMENT IS: rows of parts.
-/
namespace Go.Proofs.YtpleolmalbdpnaaDoor.Gl
open Go Go.ChangeShapes Go.WideShapes Go.ChangeAt Go.RowKit Go.Proofs Go.Proofs.YtpleolmalbdpnaaDoor.Wx Go.Proofs.YtpleolmalbdpnaaDoor.Hp

theorem Cells.append {h : Heap} {a : Addr} {xs ys : List Value} (c : Cells h a xs) (d : Cells h (a.add xs.length) ys) : Cells h a (xs ++ ys) := by
  intro i v hv
  rcases Nat.lt_or_ge i xs.length with hi | hi
  · rw [List.getElem?_append_left hi] at hv; exact c i v hv
  · rw [List.getElem?_append_right hi] at hv
    have := d (i - xs.length) v hv
    by_cases h0 : i - xs.length = 0
    · rw [h0, Addr.add_zero] at this
      rw [show i = xs.length by omega]; exact this
    · rw [Addr.add_add] at this
      rw [show i = xs.length + (i - xs.length) by omega]; exact this
theorem cells_of_world {w : World} {base : Nat} {a : Addr} {n : Nat} {cs : List Value} (h : w.cells? base a n = some cs) : Cells w.heap a cs := by
  obtain ⟨_, h2, h3⟩ := World.cells?_some h
  intro i v hv
  have hi : i < cs.length := (List.getElem?_eq_some_iff.mp hv).1
  have := h3 i (by omega)
  rw [hv] at this
  exact this
theorem cells_flat {α : Type} {h : Heap} {f : α → List Value} {w : Nat} : ∀ (xs : List α) (a : Addr) (k : Nat), (∀ x ∈ xs, (f x).length = w) → (∀ i (hi : i < xs.length), Cells h (a.add ((k + i) * w)) (f xs[i])) → Cells h (a.add (k * w)) (xs.flatMap f) := by
  intro xs
  induction xs with
  | nil => intro a k _ _; exact Cells.nil h _
  | cons x r ih =>
    intro a k hw hc
    rw [List.flatMap_cons]
    refine Cells.append (hc 0 (by simp)) ?_
    have := ih a (k + 1) (fun y hy => hw y (List.mem_cons_of_mem _ hy)) (fun i hi => by
      have := hc (i + 1) (by simpa using hi)
      rw [show k + 1 + i = k + (i + 1) by omega]; exact this)
    rw [hw x (List.mem_cons_self ..)]
    rw [Nat.add_mul, Nat.one_mul] at this
    have e : (a.add (k * w)).add w = a.add (k * w + w) := by
      by_cases h0 : w = 0
      · subst h0; simp [Addr.add]
      · rw [Addr.add_add]
    rw [e]; exact this
theorem flat_map1 {α : Type} (f : α → Value) (xs : List α) : xs.flatMap (fun b => [f b]) = xs.map f := by
  induction xs with
  | nil => rfl
  | cons x r ih => rw [List.flatMap_cons, ih]; rfl
theorem pick_list {α : Type} {p : Nat → α → Prop} : ∀ n, (∀ i, i < n → ∃ x, p i x) → ∃ xs : List α, xs.length = n ∧ ∀ i (hi : i < xs.length), p i xs[i] := by
  intro n
  induction n with
  | zero => intro _; exact ⟨[], rfl, fun i hi => absurd hi (by simp)⟩
  | succ n ih =>
    intro h
    obtain ⟨xs, hl, hx⟩ := ih fun i hi => h i (by omega)
    obtain ⟨y, hy⟩ := h n (by omega)
    refine ⟨xs ++ [y], by simp [hl], fun i hi => ?_⟩
    rcases Nat.lt_or_ge i xs.length with h1 | h1
    · rw [List.getElem_append_left h1]; exact hx i h1
    · have : i = n := by simp at hi; omega
      subst this
      rw [List.getElem_append_right (by omega)]
      simpa [hl] using hy
theorem open_row {α H : Type} {enc : TypeId × Value → H} {P : Program} {W : World} {base : Nat} {t e w : Nat} {v : Value} {d : DataW H} {p : List MemPlace} (f : α → List Value) (hw : ∀ x, (f x).length = w)
    (ht : P.underlying t = some (.slice e)) (hc : P.cellsOf e = w) (hval : Value.okWide P W .any base t v) (h : DataW.Trod enc P W 0 (fun _ => true) true t v d p)
    (one : ∀ n cs y, DataW.trod enc P W 0 (fun _ => true) true n e cs = some y → ∃ x, cs = f x) :
    ∃ a l c, ∃ xs : List α, v = .slice a l c ∧ SlCells W.heap a (xs.flatMap f) ∧ xs.length = l ∧ l ≤ c ∧ Room d c := by
  obtain ⟨a1, len, cap, rfl⟩ := okWide_slice ht hval
  obtain ⟨fuel, hf⟩ := h
  rcases DataW.trod_slice ht hf with ⟨hcs, hx⟩ | ⟨a, len', cap', elems, rest, n, _, hcs, hx, hb, hl, hm, hlen, hel, hsp, hns⟩
  · simp [Value.cells] at hcs
    obtain ⟨rfl, rfl, rfl⟩ := hcs
    exact ⟨none, 0, 0, [], rfl, rfl, rfl, Nat.le_refl _, Or.inl rfl⟩
  · simp [Value.cells] at hcs
    obtain ⟨rfl, rfl, rfl⟩ := hcs
    simp only [Prod.mk.injEq] at hx
    obtain ⟨rfl, rfl⟩ := hx
    obtain ⟨hrl, _⟩ := hsp rfl
    obtain ⟨xs, hxl, hxs⟩ := pick_list (p := fun i x => Cells W.heap (a.add ((0 + i) * w)) (f x)) len fun i hi => by
      have h1 := hel i hi
      rw [List.getElem?_eq_getElem (by omega), hc, Option.bind_eq_some_iff] at h1
      obtain ⟨cs, h2, h3⟩ := h1
      obtain ⟨x, rfl⟩ := one _ _ _ h3
      exact ⟨x, by rw [Nat.zero_add]; exact cells_of_world h2⟩
    refine ⟨_, _, _, xs, rfl, ?_, hxl, hl, Or.inr ⟨_, _, rfl, by rw [List.length_map, List.length_map]; omega⟩⟩
    have := cells_flat xs a 0 (fun x _ => hw x) hxs
    rw [Nat.zero_mul, Addr.add_zero] at this
    exact this
end Go.Proofs.YtpleolmalbdpnaaDoor.Gl
