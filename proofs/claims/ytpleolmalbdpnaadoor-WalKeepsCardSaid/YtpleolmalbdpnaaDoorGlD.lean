/-
  GLUE for '..UptoSaid': a law that answers a bool, where what comes in is of so much bulk at most; rows whose parts hold rows.
-/
import Derived.Test.YtpleolmalbdpnaaDoorRows
import Derived.Test.YtpleolmalbdpnaaDoorGlC
import Derived.JoinedCond
import Derived.OpenShut
namespace Go.Proofs.YtpleolmalbdpnaaDoor.Gl
open Go Go.ChangeShapes Go.WideShapes Go.ChangeAt Go.RowKit Go.Proofs Go.Proofs.YtpleolmalbdpnaaDoor.Wx Go.Proofs.YtpleolmalbdpnaaDoor.Hp

theorem lifted_upto {H : Type} {enc : TypeId × Value → H} {C : Checked} {P : Program} (hP : C.prog = P) {os : Os} {f : FuncId} {fn : Func} {s : ChangeSpec} {tb : TypeId} {conds : List PathCond} {F : Stop.Interp}
    (own : ownKnob P.godebug = none) (started : os.Started) (noInit : P.inits.idxOf? f = none) (hfn : P.funcs[f]? = some fn)
    (witness : ∃ (w : World) (tape : Tape) (i : Input), w.os = os ∧ (w.forCall tape i).Shaped P ∧ i.vars = [] ∧ Input.okWide P (w.forCall tape i) .any w.heap.size f i ∧
      (Rows.OpenSpec.upto s).pre6 enc P fn conds false (w.forCall tape i).memory i.args ∧ Assume.holds {} P (lone (Frame.enter P f i.args .normal) [] (w.forCall tape i)))
    (hl : laidOutB P = true) (hts0 : (fn.params.toList.all fun t => P.readableRec t && decide (t < P.types.size)) = true) (hr : fn.resultTypes = #[tb]) (hb : P.underlying tb = some .bool) (hvars : s.vars = [])
    (hres : ∀ ds : List (DataW H), ds.length = fn.params.toList.length → (s.fn H (ds ++ [])).results = [.lit (.bool true)] ∧ (s.fn H (ds ++ [])).args = ds ∧ (s.fn H (ds ++ [])).vars = [])
    (law : ∀ (W : World) (base : Nat) (args : Array Value) (ds : List (DataW H)) (ps : List MemPlace), (∀ (j : Nat) t v, fn.params[j]? = some t → args[j]? = some v → Value.okWide P W .any base t v) →
      DataW.TrodAll enc P W 0 (fun _ => true) true fn.params.toList args.toList ds ps → Rows.uptoBulkAll ds ≤ 1048576 →
      HCalls P f args.toList W.heap (True_ W.heap)) :
    ReturnsInHanded {} C os f .any ((Rows.OpenSpec.upto s).pre6 enc P fn conds false) (((Rows.OpenSpec.upto s).at F).post enc P fn false true false false) := by
  subst hP
  have hts : ∀ t ∈ fn.params.toList, C.prog.readableRec t = true ∧ t < C.prog.types.size := by
    intro t ht
    have := List.all_eq_true.mp hts0 t ht
    rw [Bool.and_eq_true] at this
    exact ⟨this.1, of_decide_eq_true this.2⟩
  refine returnsInHanded_of_cond (C := C) (s := Rows.OpenSpec.upto s) (k := Rows.uptoSmall) rfl own started noInit hfn witness ?_
  intro W base args ds gs before hval hW _ hk _
  have hW' : DataW.Whole enc C.prog fn.params.toList s.vars false W args.toList ds gs before := hW
  obtain ⟨p, q, hA, hV, rfl, _, _⟩ := hW
  rw [show (Rows.OpenSpec.upto s).vars = [] from hvars] at hV
  obtain ⟨rfl, rfl⟩ := trodVars_none hV
  rw [List.append_nil] at hk
  obtain ⟨_, hc⟩ := law W base args ds p hval hA (of_decide_eq_true hk)
  have hlen := (trodAll_length hA).2
  obtain ⟨e1, e2, e3⟩ := hres ds hlen
  simp only [List.append_nil] at hW'
  refine (hc W rfl).mono fun e W' ⟨v, he, hs, hv, hf⟩ => ?_
  subst hv
  refine ⟨_, he, ds, [], p, [], p, [], (by exact hW'), ?_, ?_, ?_, ?_, fun h => by cases h⟩
  · show DataW.TrodAll _ _ _ _ _ _ _ _ (s.fn H (ds ++ [])).results _
    rw [e1, hr]; exact trodAll_mk1 (shut_bool hb true)
  · show DataW.TrodAll _ _ _ _ _ _ _ _ (s.fn H (ds ++ [])).args _
    rw [e2]
    exact trodAll_below hl ⟨hs.1, hs.2.1, hs.2.2, hf.size, fun k hk => hf.same k hk (fun x => x)⟩ hts hA (fun x hx => by simpa using hW'.lt x (by simpa using hx))
  · have e4 : (((Rows.OpenSpec.upto s).at F).fn H (ds ++ [])).vars = [] := e3
    have e5 : ((Rows.OpenSpec.upto s).at F).vars = [] := hvars
    rw [e4, e5]; rfl
  · exact (Below.frame (⟨hs.1, hs.2.1, hs.2.2, hf.size, fun k hk => hf.same k hk (fun x => x)⟩ : Below W.heap.size W W') _)

theorem bulk_part {H : Type} {d : DataW H} {l : List (DataW H)} (h : d ∈ l) : Rows.uptoBulk d ≤ Rows.uptoBulkAll l := by
  induction l with
  | nil => cases h
  | cons x r ih =>
    simp only [Rows.uptoBulkAll]
    cases List.mem_cons.1 h with
    | inl e => subst e; omega
    | inr e => have := ih e; omega
theorem bulk_one {H : Type} (d : DataW H) : 1 ≤ Rows.uptoBulk d := by
  cases d with
  | lit l => cases l <;> simp [Rows.uptoBulk]
  | nil => simp [Rows.uptoBulk]
  | ptr d => simp [Rows.uptoBulk]
  | slice elems spare => simp [Rows.uptoBulk]
  | agg parts => simp [Rows.uptoBulk]
  | iface t d => simp [Rows.uptoBulk]
  | map entries => simp [Rows.uptoBulk]
  | held h => simp [Rows.uptoBulk]
theorem bulk_length {H : Type} (l : List (DataW H)) : l.length ≤ Rows.uptoBulkAll l := by
  induction l with
  | nil => simp [Rows.uptoBulkAll]
  | cons x r ih => have := bulk_one x; simp only [Rows.uptoBulkAll, List.length_cons]; omega
theorem room_bulk {H : Type} {d : DataW H} {c : Nat} (r : Room d c) : c ≤ Rows.uptoBulk d := by
  rcases r with rfl | ⟨es, sp, rfl, rfl⟩
  · exact Nat.zero_le _
  · have h1 := bulk_length es
    have h2 := bulk_length sp
    simp only [Rows.uptoBulk]; omega
/-- bytes inside of a part -/
theorem inner_bytes {H : Type} {enc : TypeId × Value → H} {P : Program} {W : World} {t e n : Nat} {cs : List Value} {y : DataW H × List MemPlace}
    (ht : P.underlying t = some (.slice e)) (he : P.underlying e = some (.int .u8)) (hc : P.cellsOf e = 1) (h : DataW.trod enc P W 0 (fun _ => true) true n t cs = some y) :
    ∃ a l c bs, cs = [.slice a l c] ∧ StrAt W.heap a l bs ∧ l ≤ c ∧ Room y.1 c := by
  rcases open_ints ht he hc h with ⟨hcs, hx⟩ | ⟨a, len', cap', zs, hcs, _, hl, hm, hz, hx, hcell, hwz⟩
  · exact ⟨none, 0, 0, [], hcs, StrAt.nil _ _, Nat.le_refl _, Or.inl rfl⟩
  · subst hx
    simp only [if_true] at hz
    refine ⟨_, _, _, (zs.take len').map fun n => UInt8.ofNat n.toNat, hcs, ⟨by rw [List.length_map, List.length_take]; omega, ?_⟩, hl, Or.inr ⟨_, _, rfl, by simp [lits]; omega⟩⟩
    intro i u hu
    rw [List.map_map, List.getElem?_map] at hu
    rcases Nat.lt_or_ge i len' with hi | hi
    · rw [List.getElem?_take_of_lt hi, List.getElem?_eq_getElem (by omega)] at hu
      simp only [Option.map_some, Option.some.injEq, Function.comp_def] at hu
      rw [bv_of (hwz _ (List.getElem_mem (by omega)))] at hu
      have := hcell i (by omega)
      simp only [List.getD, List.getElem?_eq_getElem (show i < zs.length by omega), Option.getD_some] at this
      rw [← hu]; exact this
    · rw [List.getElem?_eq_none (by rw [List.length_take]; omega)] at hu; simp at hu
/-- a row of parts, each with what is known of it -/
theorem open_rowQ {α H : Type} {enc : TypeId × Value → H} {P : Program} {W : World} {base : Nat} {t e w : Nat} {v : Value} {d : DataW H} {p : List MemPlace} (f : α → List Value) (Q : DataW H → α → Prop) (hw : ∀ x, (f x).length = w)
    (ht : P.underlying t = some (.slice e)) (hc : P.cellsOf e = w) (hval : Value.okWide P W .any base t v) (h : DataW.Trod enc P W 0 (fun _ => true) true t v d p)
    (one : ∀ n cs y, DataW.trod enc P W 0 (fun _ => true) true n e cs = some y → ∃ x, cs = f x ∧ Q y.1 x) :
    ∃ a l c, ∃ xs : List α, v = .slice a l c ∧ SlCells W.heap a (xs.flatMap f) ∧ xs.length = l ∧ l ≤ c ∧ Room d c ∧ ∀ i (hi : i < xs.length), ∃ y, Rows.uptoBulk y ≤ Rows.uptoBulk d ∧ Q y xs[i] := by
  obtain ⟨a1, len, cap, rfl⟩ := okWide_slice ht hval
  obtain ⟨fuel, hf⟩ := h
  rcases DataW.trod_slice ht hf with ⟨hcs, hx⟩ | ⟨a, len', cap', elems, rest, n, _, hcs, hx, hb, hl, hm, hlen, hel, hsp, hns⟩
  · simp [Value.cells] at hcs
    obtain ⟨rfl, rfl, rfl⟩ := hcs
    exact ⟨none, 0, 0, [], rfl, rfl, rfl, Nat.le_refl _, Or.inl rfl, fun i hi => absurd hi (Nat.not_lt_zero _)⟩
  · simp [Value.cells] at hcs
    obtain ⟨rfl, rfl, rfl⟩ := hcs
    simp only [Prod.mk.injEq] at hx
    obtain ⟨rfl, rfl⟩ := hx
    obtain ⟨hrl, _⟩ := hsp rfl
    obtain ⟨xs, hxl, hxs⟩ := pick_list (p := fun i x => Cells W.heap (a.add ((0 + i) * w)) (f x) ∧ ∃ y ∈ elems.map (·.1), Q y x) len fun i hi => by
      have h1 := hel i hi
      rw [List.getElem?_eq_getElem (by omega), hc, Option.bind_eq_some_iff] at h1
      obtain ⟨cs, h2, h3⟩ := h1
      obtain ⟨x, rfl, hq⟩ := one _ _ _ h3
      exact ⟨x, by rw [Nat.zero_add]; exact cells_of_world h2, _, List.mem_map.mpr ⟨_, List.getElem_mem (by omega), rfl⟩, hq⟩
    refine ⟨_, _, _, xs, rfl, ?_, hxl, hl, Or.inr ⟨_, _, rfl, by rw [List.length_map, List.length_map]; omega⟩, fun i hi => ?_⟩
    · have := cells_flat xs a 0 (fun x _ => hw x) fun i hi => (hxs i hi).1
      rw [Nat.zero_mul, Addr.add_zero] at this
      exact this
    · obtain ⟨y, hy, hq⟩ := (hxs i hi).2
      refine ⟨y, ?_, hq⟩
      have := bulk_part hy
      simp only [Rows.uptoBulk]; omega
end Go.Proofs.YtpleolmalbdpnaaDoor.Gl
