import Derived.Test.YtnbfaokpaiiojaaWxE
namespace Go.Proofs.Ytnbfaokpaiiojaa.Wx
open Go

def Fit (f : Fr) (ρ : Operand → Value) : Prop := ∀ x v, evalO f x = some v → ρ x = v
theorem onV_elim {f : Fr} {ρ : Operand → Value} (hρ : Fit f ρ) {x : Operand} {k : Value → Prop} (h : onV f x k) : k (ρ x) := by
  cases x with
  | tmp t =>
    simp only [onV] at h
    cases hg : Fr.get f t with
    | none => rw [hg] at h; exact h.elim
    | some v => rw [hg] at h; rw [hρ (.tmp t) v hg]; exact h
  | const v => rw [hρ (.const v) v rfl]; exact h
  | global g => rw [hρ (.global g) _ rfl]; exact h
  | func g => rw [hρ (.func g) _ rfl]; exact h
theorem onInt_elim {v : Value} {k : IntKind → Int → Prop} (h : onInt v k) : ∃ kd n, v = .int kd n ∧ k kd n := by cases v <;> first | exact h.elim | exact ⟨_, _, rfl, h⟩
theorem onBool_elim {v : Value} {k : Bool → Prop} (h : onBool v k) : ∃ b, v = .bool b ∧ k b := by cases v <;> first | exact h.elim | exact ⟨_, rfl, h⟩
theorem onPtr_elim {v : Value} {k : Option Addr → Prop} (h : onPtr v k) : ∃ q, v = .pointer q ∧ k q := by cases v <;> first | exact h.elim | exact ⟨_, rfl, h⟩
theorem onSlice_elim {v : Value} {k : Option Addr → Nat → Nat → Prop} (h : onSlice v k) : ∃ a l c, v = .slice a l c ∧ k a l c := by cases v <;> first | exact h.elim | exact ⟨_, _, _, rfl, h⟩
theorem onAgg_elim {v : Value} {k : List Value → Prop} (h : onAgg v k) : ∃ cs, v = .agg ⟨cs⟩ ∧ k cs := by
  cases v <;> try exact h.elim
  rename_i a; exact ⟨a.toList, by simp, h⟩
theorem onStr_elim {v : Value} {k : ByteArray → Prop} (h : onStr v k) : ∃ s, v = .string s ∧ k s := by cases v <;> first | exact h.elim | exact ⟨_, rfl, h⟩
theorem onTup_elim {v : Value} {k : List Value → Prop} (h : onTup v k) : ∃ vs, v = .tuple ⟨vs⟩ ∧ k vs := by
  cases v <;> try exact h.elim
  rename_i a; exact ⟨a.toList, by simp, h⟩
theorem onSome_elim {α : Type} {o : Option α} {k : α → Prop} (h : onSome o k) : ∃ a, o = some a ∧ k a := by cases o <;> first | exact h.elim | exact ⟨_, rfl, h⟩
theorem ptr_elim {f : Fr} {ρ : Operand → Value} (hρ : Fit f ρ) {x : Operand} {k : Addr → Prop} (h : onV f x fun v => onPtr v fun q => onSome q k) : ∃ p, ρ x = .pointer (some p) ∧ k p := by
  obtain ⟨q, hq, h1⟩ := onPtr_elim (onV_elim hρ h)
  obtain ⟨p, hp, h2⟩ := onSome_elim h1
  exact ⟨p, by rw [hq, hp], h2⟩
theorem loX_elim {f : Fr} {ρ : Operand → Value} (hρ : Fit f ρ) {lo : Option Operand} {k : Option Int → Prop} (h : loX f lo k) : ∃ q, lo.map ρ = ivs q ∧ k (ins q) := by
  cases lo with
  | none => exact ⟨none, rfl, h⟩
  | some x =>
    obtain ⟨kd, n, hv, hk⟩ := onInt_elim (onV_elim hρ h)
    exact ⟨some (kd, n), by simp [ivs, hv], hk⟩
theorem evs_elim {f : Fr} {ρ : Operand → Value} (hρ : Fit f ρ) : ∀ {l : List Operand} {acc : List Value} {k : List Value → Prop}, evs f l acc k → k (acc ++ l.map ρ)
  | [], _, _, h => by simpa [evs] using h
  | x :: r, acc, k, h => by
    have := evs_elim hρ (onV_elim hρ (show onV f x _ from h))
    simpa using this

/-- what one operation comes to -/
def OpTo (P : Program) (ρ : Operand → Value) (o : Oper) (w : World) (k : Value → World → Prop) : Prop :=
  (∃ v w', (execOp ρ o).run P w = .ok (.value v) w' ∧ k v w') ∨
  (∃ w', (execOp ρ o).run P w = .ok .skip w' ∧ k undef w') ∨
  (∃ g args, (execOp ρ o).run P w = .ok (.enter g args) w ∧ Calls P g args w fun e w'' => ∃ v, e = .returned v ∧ k v w'')
def HK (w : World) (k : Value → Heap → Prop) : Value → World → Prop := fun v w' => SameRest w w' ∧ k v w'.heap

theorem OpTo.val {P : Program} {ρ : Operand → Value} {o : Oper} {w : World} {s : Sem Value} {k : Value → Heap → Prop} (he : execOp ρ o = (do Pure.pure (.value (← s)))) (h : To P s w k) : OpTo P ρ o w (HK w k) := by
  obtain ⟨v, w', h1, h2, h3⟩ := h
  exact .inl ⟨v, w', by rw [he, Sem.run_bind, h1]; rfl, h2, h3⟩
theorem OpTo.qt {P : Program} {ρ : Operand → Value} {o : Oper} {w : World} {s : Sem Value} {k : Value → Heap → Prop} (he : execOp ρ o = (do Pure.pure (.value (← s)))) (h : Qt P s (fun v => k v w.heap)) : OpTo P ρ o w (HK w k) := by
  obtain ⟨v, h1, h2⟩ := h
  exact .val he ⟨v, w, h1 w, .refl _, h2⟩

theorem exT_elim' {ty : Ty} {C K : Value → Prop} (h : exT ty C K) : ∃ v, C v ∧ K v := exT_elim h
theorem exTs_elim : ∀ {tys : List Ty} {acc : List Value} {C K : List Value → Prop}, exTs tys acc C K → ∃ vs, C vs ∧ K vs
  | [], acc, _, _, h => ⟨acc, h⟩
  | .int _ :: _, _, _, _, ⟨_, h⟩ => exTs_elim h
  | .bool :: _, _, _, _, ⟨_, h⟩ => exTs_elim h
  | .str :: _, _, _, _, ⟨_, h⟩ => exTs_elim h
  | .ptr :: _, _, _, _, ⟨_, h⟩ => exTs_elim h
  | .slice :: _, _, _, _, ⟨_, _, _, h⟩ => exTs_elim h
  | .agg :: _, _, _, _, ⟨_, h⟩ => exTs_elim h
  | .any :: _, _, _, _, ⟨_, h⟩ => exTs_elim h
theorem backX_elim {tys : List Ty} {k : Value → Heap → Prop} {v : Value} {h : Heap} (hb : backX tys k v h) : k v h := by
  match tys, hb with
  | [], ⟨e, hk⟩ => subst e; exact hk
  | [ty], hb => obtain ⟨u, e, hk⟩ := exT_elim (show exT ty (fun u => v = u) (fun u => k u h) from hb); subst e; exact hk
  | _ :: _ :: _, hb => obtain ⟨us, e, hk⟩ := exTs_elim (show exTs _ [] (fun us => v = .tuple ⟨us⟩) (fun us => k (.tuple ⟨us⟩) h) from hb); subst e; exact hk
theorem call_to {P : Program} {ρ : Operand → Value} {o : Oper} {w : World} {g : Nat} {args : List Value} {tys : List Ty} {k : Value → Heap → Prop}
    (he : execOp ρ o = callFunc g ⟨args⟩) (h : HCalls P g args w.heap (backX tys k)) : OpTo P ρ o w (HK w k) := by
  obtain ⟨⟨fn, hf, hn, hb⟩, hc⟩ := h
  refine .inr (.inr ⟨g, ⟨args⟩, ?_, ?_⟩)
  · rw [he]
    simp only [callFunc, Sem.run_bind, run_program, Result.andThen_ok, hf, hn, hb, Bool.false_eq_true, if_false, Sem.run_pure]
  · exact (hc w rfl).mono fun e w' ⟨v, h1, h2, h3⟩ => ⟨v, h1, h2, backX_elim h3⟩

theorem part_to {P : Program} {t : Nat} {x : TI} (hx : TIok P t x) {cs : Array Value} {off : Nat} {k : Value → Prop}
    (h : match x.d.ty with
      | .agg => k (.agg ⟨(cs.toList.drop off).take x.cells⟩)
      | ty => exT ty (fun u => cs.toList[off]? = some u) k) : Qt P (part t cs off) k := by
  obtain ⟨i, d, z, hi, hd, hdx, hsz, _, _, _⟩ := hx.get
  have hag := fun w => run_isAgg_ok hd w
  unfold part
  rw [← hdx] at h
  have agg : isAggD (descSum d) = true → (descSum d).ty = .agg := by cases descSum d <;> simp [D.ty, isAggD]
  have nagg : isAggD (descSum d) = false → (descSum d).ty ≠ .agg := by cases descSum d <;> simp [D.ty, isAggD]
  cases hq : isAggD (descSum d) with
  | true =>
    rw [agg hq] at h
    refine ⟨_, fun w => ?_, h⟩
    simp only [Sem.run_bind, hag, hq, Result.andThen_ok, if_true, run_sizeOf_ok hi, hsz, Sem.run_pure]
    congr 2
    apply Array.ext'
    simp
  | false =>
    have hne := nagg hq
    have h' : exT (descSum d).ty (fun u => cs.toList[off]? = some u) k := by
      cases ht : (descSum d).ty <;> rw [ht] at h hne <;> first | exact h | exact (hne rfl).elim
    obtain ⟨v, hc, hk⟩ := exT_elim h'
    refine ⟨v, fun w => ?_, hk⟩
    have hc' : cs[off]? = some v := by simpa using hc
    simp only [Sem.run_bind, hag, hq, Result.andThen_ok, Bool.false_eq_true, if_false, hc', Sem.run_pure]

theorem foldl_push (ns : List UInt8) : ∀ r : ByteArray, (ns.map fun b => ((b.toNat : Nat) : Int)).foldl (fun r n => r.push (UInt8.ofNat n.toNat)) r = ⟨r.data ++ ns.toArray⟩ := by
  induction ns with
  | nil => intro r; simp
  | cons b ns ih =>
    intro r
    simp only [List.map_cons, List.foldl_cons]
    rw [ih]
    simp [ByteArray.push]
theorem bytesStr_to {P : Program} {w : World} {a : Option Addr} {l c : Nat} {bs : List UInt8} (h : StrAt w.heap a l bs) : (Conv.bytesToString (.slice a l c)).run P w = .ok (.string (mkStr bs)) w := by
  obtain ⟨hl, hc⟩ := h
  cases a with
  | none =>
    have : bs = [] := by simpa [SlCells] using hc
    subst this
    rfl
  | some p =>
    have hlo := run_loadCells_list (P := P) w p (bs.map bv) (fun j v hv => hc j v hv)
    have hm : (bs.map bv) = (bs.map fun b => ((b.toNat : Nat) : Int)).map (Value.int .u8) := by simp [bv, Function.comp_def]
    rw [hm, List.length_map, List.length_map, hl] at hlo
    rw [run_bytesToString w p l c _ hlo, foldl_push]
    simp [mkStr, ByteArray.empty, ByteArray.emptyWithCapacity]
    rfl
def isStrD : D → Bool
  | .str => true
  | _ => false
theorem convX_to {C : Ctx} (hC : CtxOk C) {s t : Nat} {v : Value} {w : World} {k : Value → Heap → Prop} (h : convX C (C.ti s).d (C.ti t).d v w.heap k) :
    ∃ r, (convert s t v).run C.P w = .ok r w ∧ k r w.heap ∧ (isStrD (C.ti t).d = false → ∀ w' : World, (convert s t v).run C.P w' = .ok r w') := by
  have hs : (C.ti s).d ≠ .other := by intro e; rw [e] at h; exact h.elim
  have ht : (C.ti t).d ≠ .other := by intro e; rw [e] at h; unfold convX at h; split at h <;> first | exact h.elim | simp at *
  obtain ⟨_, ds, _, _, hus, hds, _⟩ := (hC.okD hs).get
  obtain ⟨_, dt, _, _, hut, hdt, _⟩ := (hC.okD ht).get
  rw [← hds, ← hdt] at h
  cases ds <;> cases dt <;> cases v <;> try exact h.elim
  · exact ⟨_, by simp [convert, run_underlying hus, run_underlying hut, Conv.intToInt], h, fun _ w' => by simp [convert, run_underlying hus, run_underlying hut, Conv.intToInt]⟩
  · exact ⟨_, by simp [convert, run_underlying hus, run_underlying hut], h, fun _ w' => by simp [convert, run_underlying hus, run_underlying hut]⟩
  · rename_i e a l c
    simp only [descSum, convX] at h
    cases hb : isU8 (C.ti e).d with
    | false => rw [hb] at h; exact h.elim
    | true =>
      rw [hb] at h
      obtain ⟨bs, hst, hk⟩ := h
      have he : (C.ti e).d ≠ .other := by intro e'; rw [e'] at hb; simp [isU8] at hb
      obtain ⟨_, de, _, _, hue, hde, _⟩ := (hC.okD he).get
      rw [← hde] at hb
      have hue' : C.P.underlying e = some (.int .u8) := by
        cases de <;> simp [descSum, isU8] at hb
        rename_i kd
        cases kd <;> simp at hb
        exact hue
      exact ⟨_, by rw [run_convert_bytes_string w s t e a l c hus hue' hut]; exact bytesStr_to hst, hk, fun hf => by rw [← hdt] at hf; simp [descSum, isStrD] at hf⟩

theorem minX_to {P : Program} {x y : Value} {k : Value → Prop} (h : minX x y k) (at_ : Array TypeId) (ty : TypeId) : Qt P (Builtin.min_ at_ ty #[x, y]) k := by
  cases x <;> cases y <;> try exact h.elim
  rename_i k1 a k2 b
  simp only [minX] at h
  cases hk : kindEq k1 k2 with
  | false => rw [hk] at h; exact h.elim
  | true => rw [hk] at h; obtain rfl := kindEq_eq hk; exact ⟨_, by simp [Builtin.min_, Builtin.min2], h⟩
theorem maxX_to {P : Program} {x y : Value} {k : Value → Prop} (h : maxX x y k) (at_ : Array TypeId) (ty : TypeId) : Qt P (Builtin.max_ at_ ty #[x, y]) k := by
  cases x <;> cases y <;> try exact h.elim
  rename_i k1 a k2 b
  simp only [maxX] at h
  cases hk : kindEq k1 k2 with
  | false => rw [hk] at h; exact h.elim
  | true => rw [hk] at h; obtain rfl := kindEq_eq hk; exact ⟨_, by simp [Builtin.max_, Builtin.max2], h⟩
theorem lenX_to {P : Program} {t : Nat} {d : TypeDesc} (hd : P.underlying t = some d) {x : Value} {k : Value → Prop} (h : lenX (descSum d) x k) (ty : TypeId) : Qt P (Builtin.len_ #[t] ty #[x]) k := by
  cases d <;> cases x <;> first | exact h.elim | exact ⟨_, by simp [Builtin.len_, run_underlying hd, goInt], h⟩
theorem capX_to {P : Program} {t : Nat} {d : TypeDesc} (hd : P.underlying t = some d) {x : Value} {k : Value → Prop} (h : capX (descSum d) x k) (ty : TypeId) : Qt P (Builtin.cap_ #[t] ty #[x]) k := by
  cases d <;> cases x <;> first | exact h.elim | exact ⟨_, by simp [Builtin.cap_, run_underlying hd, goInt], h⟩

theorem field_run {P : Program} {t i : Nat} {d : TypeDesc} (hd : P.underlying t = some d) {fs : List (Nat × Nat)} (hf : descSum d = .struct fs) {o : Nat × Nat} (ho : fs[i]? = some o) :
    ∃ (fields : Array Field) (fd : Field), d = .struct fields ∧ fields[i]? = some fd ∧ fd.offset = o.1 ∧ fd.type = o.2 := by
  cases d <;> simp [descSum] at hf
  rename_i fields
  subst hf
  simp at ho
  obtain ⟨fd, h1, h2⟩ := ho
  exact ⟨fields, fd, rfl, by simpa using h1, by rw [← h2], by rw [← h2]⟩
theorem fieldOf_elim {C : Ctx} {t i : Nat} {o : Nat × Nat} (h : fieldOf C t i = some o) : ∃ fs, (C.ti t).d = .struct fs ∧ fs[i]? = some o := by
  unfold fieldOf at h
  cases hd : (C.ti t).d <;> rw [hd] at h <;> simp at h
  exact ⟨_, rfl, h⟩
end Go.Proofs.Ytnbfaokpaiiojaa.Wx
