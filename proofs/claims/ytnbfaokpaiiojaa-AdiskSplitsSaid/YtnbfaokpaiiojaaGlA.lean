/-
  FROM A CALL THAT ANSWERS TRUE AND LEAVES OLD MEMORY ALONE, TO THE ROW.
-/
import Derived.Test.YtnbfaokpaiiojaaHpE
import Derived.ProofKit
import Derived.SizedLaws
import Derived.ChangeCalls
namespace Go.Proofs.Ytnbfaokpaiiojaa.Gl
open Go Go.ChangeShapes Go.WideShapes Go.ChangeAt Go.RowKit Go.Proofs Go.Proofs.Ytnbfaokpaiiojaa.Wx Go.Proofs.Ytnbfaokpaiiojaa.Hp

theorem trodAll_below {H : Type} {enc : TypeId × Value → H} {P : Program} (hl : laidOutB P = true) {W W' : World} (hb : Below W.heap.size W W') :
    ∀ {ts : List TypeId} {vs : List Value} {ds : List (DataW H)} {ps : List MemPlace}, (∀ t ∈ ts, P.readableRec t = true ∧ t < P.types.size) → DataW.TrodAll enc P W 0 (fun _ => true) true ts vs ds ps →
      (∀ x ∈ ps, x.block < W.heap.size) → DataW.TrodAll enc P W' 0 (fun b => decide (b < W.heap.size)) true ts vs ds ps := by
  intro ts
  induction ts with
  | nil =>
    intro vs ds ps _ h _
    obtain ⟨rfl, rfl, rfl⟩ := trodAll_nil h
    exact trodAll_mk0
  | cons t ts ih =>
    intro vs ds ps hts h hlt
    match vs, ds, h with
    | v :: vs, d :: ds, ⟨p, q, h1, h2, e⟩ =>
      subst e
      obtain ⟨a1, a2⟩ := hts t (List.mem_cons_self ..)
      exact ⟨p, q, Below.trod hl a1 a2 h1 hb (fun x hx => hlt x (List.mem_append_left _ hx)), ih (fun u hu => hts u (List.mem_cons_of_mem _ hu)) h2 (fun x hx => hlt x (List.mem_append_right _ hx)), rfl⟩

/-- the law's call, as its caller sees it -/
def True_ (h : Heap) : Value → Heap → Prop := fun v h' => v = .bool true ∧ Fr No h h'
theorem true_mk {h : Heap} : ∀ h', Fr No h h' → True_ h (.bool true) h' := fun _ f => ⟨rfl, f⟩

theorem lifted_bool {H : Type} {enc : TypeId × Value → H} {C : Checked} {P : Program} (hP : C.prog = P) {os : Os} {f : FuncId} {fn : Func} {s : ChangeSpec} {tb : TypeId} {conds : List PathCond}
    (own : ownKnob P.godebug = none) (started : os.Started) (noInit : P.inits.idxOf? f = none) (hfn : P.funcs[f]? = some fn)
    (witness : ∃ (w : World) (tape : Tape) (i : Input), w.os = os ∧ (w.forCall tape i).Shaped P ∧ i.vars = [] ∧ Input.okWide P (w.forCall tape i) .any w.heap.size f i ∧
      s.pre6 enc P fn conds false (w.forCall tape i).memory i.args ∧ Assume.holds {} P (lone (Frame.enter P f i.args .normal) [] (w.forCall tape i)))
    (hl : laidOutB P = true) (hts0 : (fn.params.toList.all fun t => P.readableRec t && decide (t < P.types.size)) = true) (hr : fn.resultTypes = #[tb]) (hb : P.underlying tb = some .bool) (hvars : s.vars = [])
    (hres : ∀ ds : List (DataW H), ds.length = fn.params.toList.length → (s.fn H (ds ++ [])).results = [.lit (.bool true)] ∧ (s.fn H (ds ++ [])).args = ds ∧ (s.fn H (ds ++ [])).vars = [])
    (law : ∀ (W : World) (base : Nat) (args : Array Value) (ds : List (DataW H)) (ps : List MemPlace), (∀ (j : Nat) t v, fn.params[j]? = some t → args[j]? = some v → Value.okWide P W .any base t v) →
      DataW.TrodAll enc P W 0 (fun _ => true) true fn.params.toList args.toList ds ps → (DataW.weightsEach P fn.params.toList ds).all (· ≤ reachBytes) = true →
      HCalls P f args.toList W.heap (True_ W.heap)) :
    ReturnsInHanded {} C os f .any (s.pre6 enc P fn conds false) (s.post enc P fn false true false false) := by
  subst hP
  have hts : ∀ t ∈ fn.params.toList, C.prog.readableRec t = true ∧ t < C.prog.types.size := by
    intro t ht
    have := List.all_eq_true.mp hts0 t ht
    rw [Bool.and_eq_true] at this
    exact ⟨this.1, of_decide_eq_true this.2⟩
  refine returnsInHanded_of_change_sized (C := C) own started noInit hfn witness ?_
  intro W base args ds gs before hval hW _ hsz _
  have hW' := hW
  obtain ⟨p, q, hA, hV, rfl, _, _⟩ := hW
  rw [hvars] at hV
  obtain ⟨rfl, rfl⟩ := trodVars_none hV
  have hvt : s.plain.varTypes C.prog = [] := by
    have : s.plain.vars = [] := hvars
    simp [DataSpec.varTypes, this]
  rw [hvt, List.append_nil, List.append_nil] at hsz
  obtain ⟨_, hc⟩ := law W base args ds p hval hA hsz
  have hlen := (trodAll_length hA).2
  obtain ⟨e1, e2, e3⟩ := hres ds hlen
  simp only [List.append_nil] at hW'
  refine (hc W rfl).mono fun e W' ⟨v, he, hs, hv, hf⟩ => ?_
  subst hv
  refine ⟨_, he, ds, [], p, [], p, [], by simpa using hW', ?_, ?_, ?_, ?_, fun h => by cases h⟩
  · rw [e1, hr]; exact trodAll_mk1 (shut_bool hb true)
  · rw [e2]
    exact trodAll_below hl ⟨hs.1, hs.2.1, hs.2.2, hf.size, fun k hk => hf.same k hk (fun x => x)⟩ hts hA (fun x hx => by simpa using hW'.lt x (by simpa using hx))
  · rw [e3, hvars]; rfl
  · exact (Below.frame (⟨hs.1, hs.2.1, hs.2.2, hf.size, fun k hk => hf.same k hk (fun x => x)⟩ : Below W.heap.size W W') _)
end Go.Proofs.Ytnbfaokpaiiojaa.Gl
