import Derived.Test.YtnbfaokpaiiojaaWxF
namespace Go.Proofs.Ytnbfaokpaiiojaa.Wx
open Go

theorem slice_desc {C : Ctx} (hC : CtxOk C) {t e : Nat} (h : (C.ti t).d = .slice e) : ∃ d, C.P.underlying t = some d ∧ descSum d = .slice e := by
  obtain ⟨_, d, _, _, hu, hd, _⟩ := (hC.okD (t := t) (by rw [h]; intro e; cases e)).get
  exact ⟨d, hu, hd.trans h⟩
theorem desc_of {C : Ctx} (hC : CtxOk C) {t : Nat} (h : (C.ti t).d ≠ .other) : ∃ d, C.P.underlying t = some d ∧ descSum d = (C.ti t).d := by
  obtain ⟨_, d, _, _, hu, hd, _⟩ := (hC.okD h).get
  exact ⟨d, hu, hd⟩
theorem binX_other {op : BinOp} {x y : Value} {k : Value → Prop} {d : D} (h : binX d op x y k) : (∃ kd a kd' b, x = .int kd a ∧ y = .int kd' b) ∨ (∃ a b, x = .string a ∧ y = .string b) ∨ d ≠ .other := by
  by_cases hd : d = .other
  · subst hd
    cases x <;> cases y <;> first | exact h.elim | exact .inl ⟨_, _, _, _, rfl, rfl⟩ | exact .inr (.inl ⟨_, _, rfl, rfl⟩) | (simp [binX] at h; done) | (rename_i a b; cases b <;> exact h.elim) | (rename_i a _ _ b _ _; cases b <;> exact h.elim)
  · exact .inr (.inr hd)

def isQ : Op → Bool
  | .move _ | .assign _ | .pick _ _ _ | .build _ _ | .load _ _ | .nilCheck _ | .binOp _ _ _ _ _ | .unOp _ _ _ | .convert _ _ _ | .makeFunc _ _ _ | .slice _ _ _ _ _ | .fieldAddr _ _ _ | .field _ _ _
  | .indexAddr _ _ _ | .index _ _ _ | .extract _ _ | .sliceToArrayPointer _ _ => true
  | .call { callee := .builtin .len, .. } | .call { callee := .builtin .cap, .. } | .call { callee := .builtin .min, .. } | .call { callee := .builtin .max, .. } => true
  | _ => false
def isReadOp (C : Ctx) : Op → Bool
  | .load _ _ => true
  | .convert _ t _ => isStrD (C.ti t).d
  | _ => false
/-- quietly: the world stands; and what reads no memory comes to the same in every world -/
def QTo (C : Ctx) (ρ : Operand → Value) (o : Oper) (w : World) (k : Value → Heap → Prop) : Prop :=
  ∃ v, (execOp ρ o).run C.P w = .ok (.value v) w ∧ k v w.heap ∧ (isReadOp C o.op = false → ∀ w' : World, (execOp ρ o).run C.P w' = .ok (.value v) w')
theorem QTo.qt {C : Ctx} {ρ : Operand → Value} {o : Oper} {w : World} {s : Sem Value} {k : Value → Heap → Prop} (he : execOp ρ o = (do Pure.pure (.value (← s)))) (h : Qt C.P s (fun v => k v w.heap)) : QTo C ρ o w k := by
  obtain ⟨v, h1, h2⟩ := h
  exact ⟨v, by rw [he, Sem.run_bind, h1]; rfl, h2, fun _ w' => by rw [he, Sem.run_bind, h1]; rfl⟩
theorem QTo.op {C : Ctx} {ρ : Operand → Value} {o : Oper} {w : World} {k : Value → Heap → Prop} (h : QTo C ρ o w k) : OpTo C.P ρ o w (HK w k) :=
  let ⟨v, h1, h2, _⟩ := h; .inl ⟨v, w, h1, .refl _, h2⟩

theorem stepQ_to {C : Ctx} (hC : CtxOk C) {f : Fr} {ρ : Operand → Value} (hρ : Fit f ρ) (o : Oper) (hq : isQ o.op = true) {k : Value → Heap → Prop} {w : World} (h : stepX C f o.op o.type k w.heap) :
    QTo C ρ o w k := by
  cases ho : o.op with
  | move x => rw [ho] at h; exact ⟨ρ x, by simp [execOp, ho], onV_elim hρ h, fun _ w' => by simp [execOp, ho]⟩
  | assign x => rw [ho] at h; exact ⟨ρ x, by simp [execOp, ho], onV_elim hρ h, fun _ w' => by simp [execOp, ho]⟩
  | pick c a b =>
    rw [ho] at h
    obtain ⟨t, hc, h⟩ := onBool_elim (onV_elim hρ h)
    have he : execOp ρ o = (do Pure.pure (.value (if ← asBool (ρ c) then ρ a else ρ b))) := by simp only [execOp, ho]
    cases t with
    | true => exact ⟨ρ a, by rw [he, hc]; simp [asBool], onV_elim hρ (show onV f a (fun v => k v w.heap) from h), fun _ w' => by rw [he, hc]; simp [asBool]⟩
    | false => exact ⟨ρ b, by rw [he, hc]; simp [asBool], onV_elim hρ (show onV f b (fun v => k v w.heap) from h), fun _ w' => by rw [he, hc]; simp [asBool]⟩
  | build t parts =>
    rw [ho] at h
    obtain ⟨hx, h⟩ := hC.okX h
    refine .qt (s := Instr.build t (parts.map fun (i, x) => (i, ρ x))) (by simp only [execOp, ho]) ?_
    cases hd : (C.ti t).d with
    | struct fs =>
      rw [hd] at h
      simp only at h
      cases hb : (isFull fs.length parts.toList && (fs.all fun x => (C.ti x.2).ok) && layB (fs.map fun x => (x.1, (C.ti x.2).cells)) 0 (C.ti t).cells) with
      | false => rw [hb] at h; exact h.elim
      | true =>
        rw [hb] at h
        simp only [Bool.and_eq_true] at hb
        exact build_struct_to hC hx hd hρ hb.1.1 hb.1.2 hb.2 h
    | arr n e =>
      rw [hd] at h
      obtain ⟨hxe, h⟩ := hC.okX h
      cases hb : (isFull n parts.toList && Nat.beq (n * (C.ti e).cells) (C.ti t).cells) with
      | false => rw [hb] at h; exact h.elim
      | true =>
        rw [hb] at h
        simp only [Bool.and_eq_true] at hb
        exact build_arr_to hx hd hxe hρ hb.1 hb.2 h
    | _ => rw [hd] at h; exact h.elim
  | load t x =>
    rw [ho] at h
    obtain ⟨p, hq, h⟩ := ptr_elim hρ h
    obtain ⟨hx, h⟩ := hC.okX h
    obtain ⟨v, hr, hk⟩ := loadVar_to hx h
    refine ⟨v, ?_, hk, fun hf => by simp [isReadOp, ho] at hf⟩
    simp only [execOp, ho]
    rw [hq]
    simp only [Instr.loadAt, Instr.sureAddr, Sem.run_bind, Sem.run_pure, Result.andThen_ok, hr]
  | nilCheck x =>
    rw [ho] at h
    have hk := onV_elim hρ h
    cases hv : ρ x with
    | pointer q =>
      rw [hv] at hk
      obtain ⟨p, hp, hk⟩ := onSome_elim hk
      rw [hp] at hv
      exact ⟨_, by simp only [execOp, ho, hv]; rfl, hk, fun _ w' => by simp only [execOp, ho, hv]; rfl⟩
    | func fn fs cs =>
      rw [hv] at hk
      cases fn with
      | func g => exact ⟨_, by simp only [execOp, ho, hv]; rfl, hk, fun _ w' => by simp only [execOp, ho, hv]; rfl⟩
      | _ => exact hk.elim
    | _ => rw [hv] at hk; exact hk.elim
  | binOp op t x y u =>
    rw [ho] at h
    have hk := onV_elim hρ (onV_elim hρ h)
    refine .qt (s := do eqGuard op t x y (ρ x) (ρ y); binOp op t (ρ x) (ρ y)) (by simp only [execOp, ho]) ?_
    have hg := fun w => eqGuard_run (P := C.P) (op := op) (t := t) (x := x) (y := y) (w := w) (binX_guard hk)
    have : Qt C.P (binOp op t (ρ x) (ρ y)) (fun r => k r w.heap) := by
      rcases binX_other hk with ⟨kd, a, kd', b, e1, e2⟩ | ⟨a, b, e1, e2⟩ | hne
      · rw [e1, e2] at hk ⊢
        have hk' : bif isShift op then shiftB op kd a b (fun r => k r w.heap) else bif kindEq kd kd' then intB op kd a b (fun r => k r w.heap) else False := by
          unfold binX at hk; split at hk
          · exact hk.elim
          · exact hk
        cases hs : isShift op with
        | true => rw [hs] at hk'; exact shiftB_to hk'
        | false =>
          rw [hs] at hk'
          cases hkk : kindEq kd kd' with
          | false => rw [hkk] at hk'; exact hk'.elim
          | true => rw [hkk] at hk'; obtain rfl := kindEq_eq hkk; exact intB_to hs hk'
      · rw [e1, e2] at hk ⊢
        have hk' : strB op a b (fun r => k r w.heap) := by
          unfold binX at hk; split at hk
          · exact hk.elim
          · exact hk
        exact strB_to hk'
      · obtain ⟨d, hu, hd⟩ := desc_of hC hne
        rw [← hd] at hk
        exact binX_to hu hk
    obtain ⟨v, h1, h2⟩ := this
    exact ⟨v, fun w => by rw [Sem.run_bind, hg]; exact h1 w, h2⟩
  | unOp op t x =>
    rw [ho] at h
    exact .qt (s := Op.unary op (ρ x)) (by simp only [execOp, ho]) (unX_to (onV_elim hρ h))
  | convert s t x =>
    rw [ho] at h
    obtain ⟨r, h1, h2, h3⟩ := convX_to hC (onV_elim hρ h)
    refine ⟨r, by simp only [execOp, ho, Sem.run_bind, h1]; rfl, h2, fun hf w' => ?_⟩
    have := h3 (by simpa [isReadOp, ho] using hf) w'
    simp only [execOp, ho, Sem.run_bind, this]; rfl
  | makeFunc fn fs cs =>
    rw [ho] at h
    cases fn with
    | func g =>
      have h1 := evs_elim hρ h
      have h2 := evs_elim hρ h1
      simp only [List.nil_append] at h2
      cases hfs : fs.toList.map ρ with
      | cons a r => rw [hfs] at h2; exact h2.elim
      | nil =>
        rw [hfs] at h2
        have e1 : fs.map ρ = #[] := by apply Array.ext'; simpa using hfs
        have e2 : cs.map ρ = ⟨cs.toList.map ρ⟩ := by apply Array.ext'; simp
        exact .qt (s := Instr.makeFunc (.func g) (fs.map ρ) (cs.map ρ)) (by simp only [execOp, ho]) (by rw [e1, e2]; exact ⟨_, fun _ => rfl, h2⟩)
    | _ => exact h.elim
  | slice t x lo hi mx =>
    rw [ho] at h
    have h := onV_elim hρ h
    obtain ⟨q1, e1, h⟩ := loX_elim hρ h
    obtain ⟨q2, e2, h⟩ := loX_elim hρ h
    obtain ⟨q3, e3, h⟩ := loX_elim hρ h
    refine .qt (s := Instr.sliceAt t (ρ x) (lo.map ρ) (hi.map ρ) (mx.map ρ)) (by simp only [execOp, ho]) ?_
    rw [e1, e2, e3]
    have hne : (C.ti t).d ≠ .other := by
      intro e; rw [e] at h
      obtain ⟨_, h⟩ := hC.okX h
      exact h.elim
    obtain ⟨d, hu, hd⟩ := desc_of hC hne
    by_cases hs : (C.ti t).d = .str
    · rw [hs] at h hd
      refine sliceX_to hu (size := 1) ?_ (by rw [hd]; exact h)
      intro e he
      rw [hd] at he
      rcases he with he | ⟨n, he⟩ <;> cases he
    · have h' : okX (C.ti (elemOf C t)) (sliceX (C.ti t).d (C.ti (elemOf C t)).cells (ρ x) (ins q1) (ins q2) (ins q3) fun r => k r w.heap) := by
        cases hq : (C.ti t).d <;> rw [hq] at h <;> first | exact (hs hq).elim | exact h
      obtain ⟨hx, h'⟩ := hC.okX h'
      rw [← hd] at h'
      refine sliceX_to hu ?_ h'
      intro e he
      have hee : elemOf C t = e := by
        unfold elemOf
        rw [← hd]
        rcases he with he | ⟨n, he⟩ <;> rw [he]
      obtain ⟨i, _, _, hi, _, _, hsz, _⟩ := hx.get
      rw [hee] at hi hsz ⊢
      exact ⟨i, hi, hsz⟩
  | fieldAddr t x i =>
    rw [ho] at h
    obtain ⟨p, hq, h⟩ := ptr_elim hρ h
    obtain ⟨fo, hfo, h⟩ := onSome_elim h
    obtain ⟨fs, hd, hfs⟩ := fieldOf_elim hfo
    obtain ⟨d, hu, hdd⟩ := desc_of hC (t := t) (by rw [hd]; intro e; cases e)
    rw [hd] at hdd
    obtain ⟨fields, fd, rfl, h1, h2, h3⟩ := field_run hu hdd hfs
    cases hz : Nat.beq (C.ti fo.2).cells 0 with
    | true => rw [hz] at h; exact h.elim
    | false =>
      rw [hz] at h
      have hne : (C.ti fo.2).cells ≠ 0 := fun e => by rw [e] at hz; simp at hz
      have hx : TIok C.P fo.2 (C.ti fo.2) := by
        rcases hC.ti fo.2 with e | e
        · rw [e] at hne; exact (hne rfl).elim
        · exact e
      obtain ⟨fi, _, _, hfi, _, _, hsz, _⟩ := hx.get
      refine .qt (s := Instr.fieldAt t (ρ x) i) (by simp only [execOp, ho]) ⟨.pointer (some (p.add fo.1)), fun w => ?_, h⟩
      rw [hq]
      simp only [Instr.fieldAt, Sem.run_bind, run_underlying hu, Result.andThen_ok, h1, Instr.sureAddr, Sem.run_pure, fieldPlace, h3, run_sizeOf_ok hfi, Sem.run_ite]
      rw [if_neg (by rw [hsz]; exact hne), h2]
      rfl
  | field t x i =>
    rw [ho] at h
    obtain ⟨cs, hq, h⟩ := onAgg_elim (onV_elim hρ h)
    obtain ⟨fo, hfo, h⟩ := onSome_elim h
    obtain ⟨fs, hd, hfs⟩ := fieldOf_elim hfo
    obtain ⟨d, hu, hdd⟩ := desc_of hC (t := t) (by rw [hd]; intro e; cases e)
    rw [hd] at hdd
    obtain ⟨fields, fd, rfl, h1, h2, h3⟩ := field_run hu hdd hfs
    obtain ⟨hx, h⟩ := hC.okX h
    obtain ⟨v, hr, hk⟩ := part_to (cs := ⟨cs⟩) (off := fo.1) (k := fun r => k r w.heap) hx h
    refine .qt (s := Instr.field t (ρ x) i) (by simp only [execOp, ho]) ⟨v, fun w => ?_, hk⟩
    rw [hq]
    simp only [Instr.field, Sem.run_bind, run_underlying hu, Result.andThen_ok, h1, asAgg, Sem.run_pure, h2, h3, hr]
  | indexAddr t x y =>
    rw [ho] at h
    have h := onV_elim hρ (onV_elim hρ h)
    obtain ⟨kd, i, e2, h⟩ := onInt_elim h
    refine .qt (s := Instr.indexAt t (ρ x) (ρ y)) (by simp only [execOp, ho]) ?_
    rw [e2]
    cases hd : (C.ti t).d with
    | slice e =>
      rw [hd] at h
      cases hv : ρ x with
      | slice a l c =>
        rw [hv] at h
        obtain ⟨hx, ⟨h0, h1⟩, h⟩ := hC.okX h
        obtain ⟨p, hp, h⟩ := onSome_elim h
        obtain ⟨d, hu, hdd⟩ := slice_desc hC hd
        have hu' : C.P.underlying t = some (.slice e) := by cases d <;> simp [descSum] at hdd; subst hdd; exact hu
        obtain ⟨fi, _, _, hfi, _, _, hsz, _⟩ := hx.get
        refine ⟨_, fun w => ?_, h⟩
        rw [hp]
        simp [Instr.indexAt, asIntOf, run_underlying hu', h0, h1, run_sizeOf_ok hfi, hsz, scale_eq]
      | _ => rw [hv] at h; exact h.elim
    | arr n e =>
      rw [hd] at h
      cases hv : ρ x with
      | pointer q =>
        rw [hv] at h
        obtain ⟨hx, h⟩ := hC.okX h
        obtain ⟨p, hp, ⟨h0, h1⟩, h⟩ := onSome_elim h
        obtain ⟨d, hu, hdd⟩ := desc_of hC (t := t) (by rw [hd]; intro e; cases e)
        rw [hd] at hdd
        have hu' : C.P.underlying t = some (.array n e) := by cases d <;> simp [descSum] at hdd; obtain ⟨rfl, rfl⟩ := hdd; exact hu
        obtain ⟨fi, _, _, hfi, _, _, hsz, _⟩ := hx.get
        refine ⟨_, fun w => ?_, h⟩
        rw [hp]
        simp [Instr.indexAt, asIntOf, run_underlying hu', Instr.sureAddr, h0, h1, run_sizeOf_ok hfi, hsz, scale_eq]
      | _ => rw [hv] at h; exact h.elim
    | _ => rw [hd] at h; exact h.elim
  | index t x y =>
    rw [ho] at h
    have h := onV_elim hρ (onV_elim hρ h)
    obtain ⟨kd, i, e2, h⟩ := onInt_elim h
    refine .qt (s := Instr.index t (ρ x) (ρ y)) (by simp only [execOp, ho]) ?_
    rw [e2]
    cases hd : (C.ti t).d with
    | arr n e =>
      rw [hd] at h
      cases hv : ρ x with
      | agg cs =>
        rw [hv] at h
        obtain ⟨hx, ⟨h0, h1⟩, h⟩ := hC.okX h
        obtain ⟨d, hu, hdd⟩ := desc_of hC (t := t) (by rw [hd]; intro e; cases e)
        rw [hd] at hdd
        have hu' : C.P.underlying t = some (.array n e) := by cases d <;> simp [descSum] at hdd; obtain ⟨rfl, rfl⟩ := hdd; exact hu
        obtain ⟨fi, _, _, hfi, _, _, hsz, _⟩ := hx.get
        obtain ⟨v, hr, hk⟩ := part_to (cs := cs) (off := scale i.toNat (C.ti e).cells) (k := fun r => k r w.heap) hx h
        refine ⟨v, fun w => ?_, hk⟩
        rw [scale_eq] at hr
        simp [Instr.index, asIntOf, run_underlying hu', h0, h1, run_sizeOf_ok hfi, hsz, hr]
      | _ => rw [hv] at h; exact h.elim
    | str =>
      rw [hd] at h
      cases hv : ρ x with
      | string s =>
        rw [hv] at h
        obtain ⟨⟨h0, h1⟩, b, hb, h⟩ := h
        obtain ⟨d, hu, hdd⟩ := desc_of hC (t := t) (by rw [hd]; intro e; cases e)
        rw [hd] at hdd
        have hu' : C.P.underlying t = some .string := by cases d <;> simp [descSum] at hdd; exact hu
        have hb' : s[i.toNat]? = some b := by
          rw [ByteArray.toList_eq] at hb
          have hlt : i.toNat < s.data.toList.length := by
            rcases Nat.lt_or_ge i.toNat s.data.toList.length with hh | hh
            · exact hh
            · rw [List.getElem?_eq_none hh] at hb; cases hb
          have hlt' : i.toNat < s.size := by simpa using hlt
          rw [getElem?_pos s i.toNat hlt']
          rw [List.getElem?_eq_getElem hlt] at hb
          show some s.data[i.toNat] = some b
          simpa using hb
        refine ⟨bv b, fun w => ?_, h⟩
        simp [Instr.index, asIntOf, run_underlying hu', h0, hb', bv]
      | _ => rw [hv] at h; exact h.elim
    | _ => rw [hd] at h; exact h.elim
  | extract x i =>
    rw [ho] at h
    obtain ⟨vs, e1, h⟩ := onTup_elim (onV_elim hρ h)
    obtain ⟨v, hv, h⟩ := onSome_elim h
    refine .qt (s := Instr.extract (ρ x) i) (by simp only [execOp, ho]) ⟨v, fun w => ?_, h⟩
    rw [e1]
    have hv' : (⟨vs⟩ : Array Value)[i]? = some v := by simpa using hv
    simp only [Instr.extract, hv', Sem.run_pure]
  | sliceToArrayPointer t x =>
    rw [ho] at h
    obtain ⟨a, l, c, e1, h⟩ := onSlice_elim (onV_elim hρ h)
    cases hd : (C.ti t).d with
    | arr n e =>
      rw [hd] at h
      obtain ⟨h1, h⟩ := h
      obtain ⟨d, hu, hdd⟩ := desc_of hC (t := t) (by rw [hd]; intro e; cases e)
      rw [hd] at hdd
      have hu' : C.P.underlying t = some (.array n e) := by cases d <;> simp [descSum] at hdd; obtain ⟨rfl, rfl⟩ := hdd; exact hu
      refine .qt (s := Instr.arrayAt t (ρ x)) (by simp only [execOp, ho]) ⟨.pointer a, fun w => ?_, h⟩
      rw [e1]
      simp only [Instr.arrayAt, Sem.run_bind, run_underlying hu', Result.andThen_ok]
      rw [if_neg (by omega)]
      rfl
    | _ => rw [hd] at h; exact h.elim
  | call c =>
    obtain ⟨callee, args, argTypes⟩ := c
    have hargs : args.map ρ = ⟨args.toList.map ρ⟩ := by apply Array.ext'; simp
    have hat : argTypes = ⟨argTypes.toList⟩ := by simp
    cases callee with
    | builtin b =>
      have he : ∀ (s : Sem Value), builtin b argTypes o.type (args.map fun | .const _ => true | _ => false) (args.map ρ) = (do Pure.pure (.value (← s))) → execOp ρ o = (do Pure.pure (.value (← s))) := by
        intro s hs
        rw [← hs]
        simp only [execOp, ho, resolve]
        rfl
      cases b with
      | len =>
        rw [ho] at h
        have h := evs_elim hρ (show evs f args.toList [] _ from h)
        simp only [List.nil_append] at h
        split at h
        · rename_i u t e1 e2
          refine .qt (he (Builtin.len_ argTypes o.type (args.map ρ)) rfl) ?_
          rw [hargs, e1, hat, e2]
          have hne : (C.ti t).d ≠ .other := by intro e; rw [e] at h; cases u <;> exact h.elim
          obtain ⟨d, hu, hdd⟩ := desc_of hC hne
          rw [← hdd] at h
          exact lenX_to hu h _
        · exact h.elim
      | cap =>
        rw [ho] at h
        have h := evs_elim hρ (show evs f args.toList [] _ from h)
        simp only [List.nil_append] at h
        split at h
        · rename_i u t e1 e2
          refine .qt (he (Builtin.cap_ argTypes o.type (args.map ρ)) rfl) ?_
          rw [hargs, e1, hat, e2]
          have hne : (C.ti t).d ≠ .other := by intro e; rw [e] at h; cases u <;> exact h.elim
          obtain ⟨d, hu, hdd⟩ := desc_of hC hne
          rw [← hdd] at h
          exact capX_to hu h _
        · exact h.elim
      | min =>
        rw [ho] at h
        have h := evs_elim hρ (show evs f args.toList [] _ from h)
        simp only [List.nil_append] at h
        split at h
        · rename_i u v e1
          refine .qt (he (Builtin.min_ argTypes o.type (args.map ρ)) rfl) ?_
          rw [hargs, e1]
          exact minX_to h _ _
        · exact h.elim
      | max =>
        rw [ho] at h
        have h := evs_elim hρ (show evs f args.toList [] _ from h)
        simp only [List.nil_append] at h
        split at h
        · rename_i u v e1
          refine .qt (he (Builtin.max_ argTypes o.type (args.map ρ)) rfl) ?_
          rw [hargs, e1]
          exact maxX_to h _ _
        · exact h.elim
      | _ => rw [ho] at hq; exact (by cases hq)
    | value x => rw [ho] at hq; exact (by cases hq)
    | invoke r m => rw [ho] at hq; exact (by cases hq)
  | _ => rw [ho] at hq; exact (by cases hq)

theorem stepX_to {C : Ctx} (hC : CtxOk C) {f : Fr} {ρ : Operand → Value} (hρ : Fit f ρ) (o : Oper) {k : Value → Heap → Prop} {w : World} (h : stepX C f o.op o.type k w.heap) :
    OpTo C.P ρ o w (HK w k) := by
  by_cases hq : isQ o.op = true
  · exact (stepQ_to hC hρ o hq h).op
  cases ho : o.op with
  | alloc e =>
    rw [ho] at h
    obtain ⟨hx, hk⟩ := hC.okX h
    obtain ⟨i, d, z, hi, _, _, _, _, hz, hzc⟩ := hx.get
    have hzv : (zeroValue e).run C.P w = .ok z w := by simp [zeroValue, run_typeInfo_ok hi, hz]
    refine .val (s := Instr.alloc e true (.tuple #[])) (by simp only [execOp, ho]) ⟨pNew w.heap, w.alloc (.cells z.cells e), ?_, ⟨rfl, rfl, rfl⟩, ?_⟩
    · simp only [Instr.alloc, Sem.run_bind, hzv, Result.andThen_ok, newVar, newRow, run_newObj, Sem.run_pure]
      rfl
    · have hzz : z.cells = ⟨(C.ti e).zero⟩ := by apply Array.ext'; rw [← cellsL_eq, hzc]
      rw [hzz]; exact hk
  | box e x =>
    rw [ho] at h
    have hk := onV_elim hρ h
    refine .val (s := Instr.box e (ρ x)) (by simp only [execOp, ho]) ⟨pNew w.heap, w.alloc (.cells (ρ x).cells e), ?_, ⟨rfl, rfl, rfl⟩, ?_⟩
    · simp only [Instr.box, Sem.run_bind, newVar, newRow, run_newObj, Sem.run_pure, Result.andThen_ok]
      rfl
    · have hzz : (ρ x).cells = ⟨cellsL (ρ x)⟩ := by apply Array.ext'; rw [← cellsL_eq]
      show k (pNew w.heap) (w.heap.push (.cells (ρ x).cells e))
      rw [hzz]; exact hk
  | buildSlice t n parts =>
    rw [ho] at h
    refine .val (s := Instr.buildSlice t n (parts.map fun (i, x) => (i, ρ x))) (by simp only [execOp, ho]) ?_
    cases hd : (C.ti t).d with
    | slice e =>
      simp only [stepX, hd] at h
      obtain ⟨hxe, h⟩ := hC.okX h
      cases hb : (isFull n parts.toList && Nat.ble (n * (C.ti e).cells) 16777216) with
      | false => rw [hb] at h; exact h.elim
      | true =>
        rw [hb] at h
        simp only [Bool.and_eq_true] at hb
        exact buildSlice_to (slice_desc hC hd) hxe hρ hb.1 hb.2 h
    | _ => simp only [stepX, hd] at h
  | store t x y =>
    rw [ho] at h
    obtain ⟨p, hq, h⟩ := ptr_elim hρ h
    obtain ⟨hx, h⟩ := hC.okX (onV_elim hρ h)
    obtain ⟨w', hr, hs, hk⟩ := storeVar_to hx h
    refine .inr (.inl ⟨w', ?_, hs, hk⟩)
    simp only [execOp, ho, hq, Instr.storeAt, Instr.sureAddr, Sem.run_bind, Sem.run_pure, Result.andThen_ok, hr]
  | makeSlice t x y =>
    rw [ho] at h
    have h := onV_elim hρ (onV_elim hρ h)
    obtain ⟨kl, l, e1, h⟩ := onInt_elim h
    obtain ⟨kc, c, e2, h⟩ := onInt_elim h
    cases hd : (C.ti t).d with
    | slice e =>
      rw [hd] at h
      obtain ⟨hx, h⟩ := hC.okX h
      exact .val (s := Instr.makeSlice t (ρ x) (ρ y)) (by simp only [execOp, ho]) (by rw [e1, e2]; exact makeP_to (slice_desc hC hd) hx h)
    | _ => rw [hd] at h; exact h.elim
  | call c =>
    obtain ⟨callee, args, argTypes⟩ := c
    have hargs : args.map ρ = ⟨args.toList.map ρ⟩ := by apply Array.ext'; simp
    have hat : argTypes = ⟨argTypes.toList⟩ := by simp
    cases callee with
    | builtin b =>
      have he : ∀ (s : Sem Value), builtin b argTypes o.type (args.map fun | .const _ => true | _ => false) (args.map ρ) = (do Pure.pure (.value (← s))) → execOp ρ o = (do Pure.pure (.value (← s))) := by
        intro s hs
        rw [← hs]
        simp only [execOp, ho, resolve]
        rfl
      cases b with
      | append =>
        rw [ho] at h
        have h := evs_elim hρ (show evs f args.toList [] _ from h)
        simp only [List.nil_append] at h
        split at h
        · rename_i u v t t' e1 e2
          refine .val (he (Builtin.append_ argTypes o.type (args.map ρ)) rfl) ?_
          rw [hargs, e1, hat, e2]
          have key : ∀ e, (C.ti t).d = .slice e → ((∃ e', (C.ti t').d = .slice e') ∨ (C.ti t').d = .str) →
              okX (C.ti e) (onSlice u fun a l c => srcX (C.ti e) w.heap v fun n new => AppendP (C.ti e) e a l c n new w.heap fun a' l' c' h' => k (.slice a' l' c') h') →
              To C.P (Builtin.append_ ⟨[t, t']⟩ o.type ⟨[u, v]⟩) w k := by
            intro e hd hd' h
            obtain ⟨hx, h⟩ := hC.okX h
            obtain ⟨a, l, c, rfl, h⟩ := onSlice_elim h
            obtain ⟨n, new, hs, h⟩ := srcX_to (P := C.P) h
            have ht' : (∃ e', C.P.underlying t' = some (.slice e')) ∨ C.P.underlying t' = some .string := by
              rcases hd' with ⟨e', hd'⟩ | hd'
              · obtain ⟨d, hu, hdd⟩ := slice_desc hC hd'
                cases d <;> simp [descSum] at hdd
                exact .inl ⟨_, hu⟩
              · obtain ⟨d, hu, hdd⟩ := desc_of hC (t := t') (by rw [hd']; intro e; cases e)
                rw [hd'] at hdd
                cases d <;> simp [descSum] at hdd
                exact .inr hu
            exact (append_to (slice_desc hC hd) ht' hx hs h).mono fun r h' ⟨a', l', c', e, hk⟩ => by rw [e]; exact hk
          split at h
          · rename_i e e' hd hd'
            exact key e hd (.inl ⟨e', hd'⟩) h
          · rename_i e hd hd'
            exact key e hd (.inr hd') h
          · exact h.elim
        · exact h.elim
      | copy =>
        rw [ho] at h
        have h := evs_elim hρ (show evs f args.toList [] _ from h)
        simp only [List.nil_append] at h
        split at h
        · rename_i u v t t' e1 e2
          refine .val (he (Builtin.copy_ argTypes o.type (args.map ρ)) rfl) ?_
          rw [hargs, e1, hat, e2]
          split at h
          · rename_i e hd
            obtain ⟨hx, h⟩ := hC.okX h
            obtain ⟨a, l, c, hu, h2⟩ := onSlice_elim h
            subst hu
            exact (copy_to (slice_desc hC hd) hx h2).mono fun r h' ⟨m, e, hk⟩ => by rw [e]; exact hk
          · exact h.elim
        · exact h.elim
      | _ => first | (rw [ho] at hq; exact (hq rfl).elim) | (rw [ho] at h; exact h.elim)
    | value x =>
      cases x with
      | func g =>
        rw [ho] at h
        have h := evs_elim hρ (show evs f args.toList [] _ from h)
        simp only [List.nil_append] at h
        refine call_to (g := g) (args := args.toList.map ρ) ?_ h
        have hg := hρ (.func g) _ rfl
        simp only [execOp, ho, resolve, hg, Deferred.ofValue, hargs]
        show callFunc g _ = _
        congr 1
        apply Array.ext'
        simp
      | tmp s =>
        rw [ho] at h
        have h := evs_elim hρ (show evs f args.toList [] _ from onV_elim hρ (show onV f (.tmp s) _ from h))
        simp only [List.nil_append] at h
        unfold HCallsV at h
        split at h
        · rename_i g fs cs hv
          refine call_to (g := g) (args := fs.toList ++ args.toList.map ρ ++ cs.toList) ?_ h
          simp only [execOp, ho, resolve, hv, Deferred.ofValue, hargs]
          show callFunc g _ = _
          congr 1
          apply Array.ext'
          simp
        · exact h.elim
      | _ => rw [ho] at h; exact h.elim
    | invoke r m => rw [ho] at h; exact h.elim
  | _ => first | (rw [ho] at hq; exact (hq rfl).elim) | (rw [ho] at h; exact h.elim)
end Go.Proofs.Ytnbfaokpaiiojaa.Wx
