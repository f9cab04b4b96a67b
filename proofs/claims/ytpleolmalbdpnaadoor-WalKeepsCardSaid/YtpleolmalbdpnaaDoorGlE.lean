/-
  GLUE for a row that lists package-level variables: a law that answers a bool.
-/
import Derived.Test.YtpleolmalbdpnaaDoorGlD
import Derived.Deep.DeepHandedRow
import Derived.Lib.LaidTab
namespace Go.Proofs.YtpleolmalbdpnaaDoor.Gl
open Go Go.ChangeShapes Go.WideShapes Go.ChangeAt Go.RowKit Go.Proofs Go.Proofs.YtpleolmalbdpnaaDoor.Wx Go.Proofs.YtpleolmalbdpnaaDoor.Hp

theorem lifted_row {H : Type} {enc : TypeId × Value → H} {C : Checked} {P : Program} (hP : C.prog = P) {os : Os} {f : FuncId} {fn : Func} {s : ChangeSpec} {tb : TypeId} {conds : List PathCond} {F : Stop.Interp} {laid : List (String × DataW Unit)}
    (own : ownKnob P.godebug = none) (started : os.Started) (noInit : P.inits.idxOf? f = none) (hfn : P.funcs[f]? = some fn)
    (witness : ∃ (w : World) (tape : Tape) (i : Input), w.os = os ∧ (w.forCall tape i).Shaped P ∧ i.vars = [] ∧ Input.okWide P (w.forCall tape i) .any w.heap.size f i ∧
      (OpenSpec.ofChange s).preRow enc P fn conds false laid (w.forCall tape i).memory i.args ∧ Assume.holds {} P (lone (Frame.enter P f i.args .normal) [] (w.forCall tape i)))
    (hl : laidOutB P = true) (hts0 : (fn.params.toList.all fun t => P.readableRec t && decide (t < P.types.size)) = true) (hr : fn.resultTypes = #[tb]) (hb : P.underlying tb = some .bool) (hvars : s.vars = [])
    (hres : ∀ ds : List (DataW H), ds.length = fn.params.toList.length → (s.fn H (ds ++ [])).results = [.lit (.bool true)] ∧ (s.fn H (ds ++ [])).args = ds ∧ (s.fn H (ds ++ [])).vars = [])
    (law : ∀ (W : World) (base : Nat) (args : Array Value) (ds : List (DataW H)) (ps : List MemPlace), (∀ (j : Nat) t v, fn.params[j]? = some t → args[j]? = some v → Value.okWide P W .any base t v) →
      DataW.TrodAll enc P W 0 (fun _ => true) true fn.params.toList args.toList ds ps → (DataW.weightsEach P fn.params.toList ds).all (· ≤ reachBytes) = true → laidMetH P laid W →
      HCalls P f args.toList W.heap (True_ W.heap)) :
    ReturnsInHanded {} C os f .any ((OpenSpec.ofChange s).preRow enc P fn conds false laid) (((OpenSpec.ofChange s).at F).post enc P fn false true false false) := by
  subst hP
  have hts : ∀ t ∈ fn.params.toList, C.prog.readableRec t = true ∧ t < C.prog.types.size := by
    intro t ht
    have := List.all_eq_true.mp hts0 t ht
    rw [Bool.and_eq_true] at this
    exact ⟨this.1, of_decide_eq_true this.2⟩
  refine returnsInHanded_of_row (C := C) (s := OpenSpec.ofChange s) own started noInit hfn witness ?_
  intro W base args ds gs before hval hW _ _ hsz hL _ _
  have hW' : DataW.Whole enc C.prog fn.params.toList s.vars false W args.toList ds gs before := hW
  obtain ⟨p, q, hA, hV, rfl, _, _⟩ := hW
  rw [show (OpenSpec.ofChange s).vars = [] from hvars] at hV
  obtain ⟨rfl, rfl⟩ := trodVars_none hV
  have hvt : (OpenSpec.ofChange s).bare.plain.varTypes C.prog = [] := by
    have : (OpenSpec.ofChange s).bare.plain.vars = [] := hvars
    simp [DataSpec.varTypes, this]
  rw [hvt, List.append_nil, List.append_nil] at hsz
  obtain ⟨_, hc⟩ := law W base args ds p hval hA hsz hL
  have hlen := (trodAll_length hA).2
  obtain ⟨e1, e2, e3⟩ := hres ds hlen
  simp only [List.append_nil] at hW'
  refine (hc W rfl).mono fun e W' ⟨v, he, hs, hv, hf⟩ => ?_
  subst hv
  refine ⟨_, he, ds, [], p, [], p, [], (by exact hW'), ?_, ?_, ?_, ?_, fun h => by cases h⟩
  · show DataW.TrodAll _ _ _ _ _ _ _ _ (s.fn H (ds ++ [])).results _
    rw [e1, hr]; exact trodAll_mk1 (shut_bool hb true)
  · show DataW.TrodAll _ _ _ _ _ _ _ _ (s.fn H (ds ++ [])).args _
    rw [e2]
    exact trodAll_below hl ⟨hs.1, hs.2.1, hs.2.2, hf.size, fun k hk => hf.same k hk (fun x => x)⟩ hts hA (fun x hx => by simpa using hW'.lt x (by simpa using hx))
  · have e4 : (((OpenSpec.ofChange s).at F).fn H (ds ++ [])).vars = [] := e3
    have e5 : ((OpenSpec.ofChange s).at F).vars = [] := hvars
    rw [e4, e5]; rfl
  · exact (Below.frame (⟨hs.1, hs.2.1, hs.2.2, hf.size, fun k hk => hf.same k hk (fun x => x)⟩ : Below W.heap.size W W') _)

/-- a table of bools -/
theorem cells_of_bools {H : Type} {enc : TypeId × Value → H} {P : Program} {w : World} {base : Nat} {sp : Nat → Bool} {held : Bool} {fuel : Nat} {t e : TypeId} {n : Nat} {cs : List Value} {zs : List Bool} {p : List MemPlace}
    (ht : P.underlying t = some (.array n e)) (he : P.underlying e = some .bool) (hce : P.cellsOf e = 1) (hct : P.cellsOf t = n)
    (h : DataW.trod enc P w base sp held fuel t cs = some (.agg (zs.map fun z => .lit (.bool z)), p)) : cs = zs.map fun z => Value.bool z := by
  cases fuel with
  | zero => simp [DataW.trod] at h
  | succ fuel =>
    simp only [DataW.trod, ht, hce, hct, Nat.mul_one] at h
    split at h
    · rename_i hl
      obtain ⟨xs, hm, hx⟩ := Option.map_eq_some_iff.1 h
      have hxs : xs.map (·.1) = zs.map fun z => (DataW.lit (.bool z) : DataW H) := by
        have := congrArg Prod.fst hx
        simpa using this
      have hxl : xs.length = n := by simpa using Lib.mapM_length hm
      have hzl : zs.length = n := by
        have := congrArg List.length hxs
        simp at this
        omega
      apply List.ext_getElem?
      intro i
      by_cases hi : i < n
      · obtain ⟨b, hb, hf⟩ := Lib.mapM_at hm i i (by simp [hi])
        obtain ⟨z, hc, rfl⟩ := DataW.trod_bool he hf
        have h1 : cs[i]? = some (.bool z) := by
          have := congrArg (·[0]?) hc
          simpa [List.getElem?_take, List.getElem?_drop] using this
        have h2 : (xs.map (·.1))[i]? = some (DataW.lit (.bool z) : DataW H) := by simp [hb]
        rw [hxs] at h2
        simp only [List.getElem?_map, Option.map_eq_some_iff, DataW.lit.injEq, Lit.bool.injEq] at h2
        obtain ⟨z', hz', rfl⟩ := h2
        simp [h1, hz']
      · rw [List.getElem?_eq_none (by omega), List.getElem?_eq_none (by simp; omega)]
    · cases h
theorem rd_var {P : Program} {W : World} {name : String} {g : Nat} {cs : Array Value} (hg : P.globalNamed name = some g) (h : W.var? P name = some cs) : rd W.heap g = cs.toList := by
  unfold World.var? at h
  rw [hg, Option.bind_some] at h
  cases hw : W.heap[g]? with
  | none => rw [hw] at h; cases h
  | some o =>
    rw [hw] at h
    cases o with
    | cells c t z => simp only [Option.some.injEq] at h; subst h; simp [rd, hw]
    | _ => cases h
end Go.Proofs.YtpleolmalbdpnaaDoor.Gl
