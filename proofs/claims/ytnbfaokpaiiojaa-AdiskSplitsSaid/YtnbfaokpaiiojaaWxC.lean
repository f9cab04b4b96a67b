import Derived.Test.YtnbfaokpaiiojaaWxB
namespace Go.Proofs.Ytnbfaokpaiiojaa.Wx
open Go

theorem scale_eq (n s : Nat) : scale n s = n * s := by
  unfold scale
  cases h : Nat.beq s 1 with
  | false => rfl
  | true => have := Nat.eq_of_beq_eq_true h; subst this; simp
theorem Addr.add_zero (a : Addr) : a.add 0 = a := by simp [Addr.add]

/-! Cells that are given n times. -/
theorem range_mul_map (z : List Value) (n : Nat) : (List.range (n * z.length)).map (fun i => z[i % z.length]!) = (List.replicate n z).flatten := by
  by_cases hz : z.length = 0
  · have : z = [] := List.eq_nil_of_length_eq_zero hz
    subst this
    induction n with
    | zero => rfl
    | succ n ih => simp
  · induction n with
    | zero => simp
    | succ n ih =>
      have e : (List.replicate (n + 1) z).flatten = (List.replicate n z).flatten ++ z := by
        rw [List.replicate_succ', List.flatten_append]; simp
      rw [e, ← ih, Nat.add_mul, Nat.one_mul, List.range_add, List.map_append, List.map_map]
      congr 1
      apply List.ext_getElem?
      intro i
      simp only [List.getElem?_map]
      by_cases hi : i < z.length
      · simp [hi, Nat.mod_eq_of_lt hi]
      · simp [hi]
theorem repCells_eq (z : List Value) (n : Nat) : repCells z n = (List.replicate n z).flatten := by
  unfold repCells
  split
  · rename_i v
    induction n with
    | zero => rfl
    | succ n ih => rw [List.replicate_succ, ih, List.replicate_succ, List.flatten_cons]; rfl
  · rfl
theorem bang_getD (z : Array Value) (i : Nat) : z[i]! = z[i]?.getD default := by simp [getElem!_def]; split <;> simp_all
theorem zeroCells_eq (z : Value) (n : Nat) : Builtin.zeroCells z.cells n = ⟨repCells (cellsL z) n⟩ := by
  apply Array.ext'
  rw [repCells_eq, cellsL_eq, ← range_mul_map]
  simp only [Builtin.zeroCells, Array.toList_map, Array.toList_range, Array.length_toList]
  apply List.map_congr_left
  intro i _
  simp [bang_getD]
theorem madeCells_eq (z : Value) (n : Nat) : madeCells z.cells (n * z.cells.size) = ⟨repCells (cellsL z) n⟩ := by
  apply Array.ext'
  rw [repCells_eq, cellsL_eq, ← range_mul_map]
  simp only [madeCells, Array.toList_map, Array.toList_range, Array.length_toList]
  apply List.map_congr_left
  intro i _
  simp [bang_getD]
theorem length_repCells (z : List Value) (n : Nat) : (repCells z n).length = n * z.length := by
  rw [repCells_eq]
  induction n with
  | zero => simp
  | succ n ih => rw [List.replicate_succ, List.flatten_cons, List.length_append, ih, Nat.add_mul, Nat.one_mul, Nat.add_comm]

/-! make -/
theorem makeP_to {P : Program} {t e : Nat} {x : TI} (ht : ∃ d, P.underlying t = some d ∧ descSum d = .slice e) (hx : TIok P e x) {kl kc : IntKind} {l c : Int} {w : World} {k : Value → Heap → Prop}
    (h : MakeP x e l c w.heap k) : To P (Instr.makeSlice t (.int kl l) (.int kc c)) w k := by
  obtain ⟨i, d, z, hi, hd, hdx, hsz, hb, hz, hzc⟩ := hx.get
  obtain ⟨dt, hdt, hse⟩ := ht
  have hu : P.underlying t = some (.slice e) := by cases dt <;> simp [descSum] at hse; subst hse; exact hdt
  obtain ⟨⟨h0, h1, h2, h3⟩, hk⟩ := h
  have hr := run_make (P := P) w t e i z hu hi hz kl kc l c h0 h1 (by rw [hb]; exact h2) (by omega)
  have hl : z.cells.size = i.size := by
    have := hx.len
    rw [← hzc, cellsL_eq] at this
    rw [hsz, ← this]; simp
  rw [← hl, madeCells_eq, hzc] at hr
  exact ⟨_, _, hr, ⟨rfl, rfl, rfl⟩, hk⟩

/-! Slice expressions. -/
def ivs (o : Option (IntKind × Int)) : Option Value := o.map fun p => .int p.1 p.2
def ins (o : Option (IntKind × Int)) : Option Int := o.map (·.2)
theorem bound_run {P : Program} {w : World} (kd : IntKind) (i : Int) (y : Nat) (code : BoundsCode) (h0 : 0 ≤ i) (h1 : i ≤ (y : Int)) :
    (Instr.sliceBound (.int kd i) y code).run P w = .ok i.toNat w := by
  simp [Instr.sliceBound, asIntOf, h0, h1]
theorem cutX_run {P : Program} {isS : Bool} {a : Option Addr} {len cap size : Nat} {lo hi mx : Option (IntKind × Int)} {k : Value → Prop}
    (h : cutX a len cap size (ins lo) (ins hi) (ins mx) k) :
    ∃ l u m, (∀ w : World, (Instr.sliceBounds isS len cap (ivs lo) (ivs hi) (ivs mx)).run P w = .ok (l, u, m) w) ∧ k (.slice (if m = l then a else a.map (·.add (l * size))) (u - l) (m - l)) := by
  have hid : ∀ m : Nat, (if m = 0 then a else a.map (·.add (0 * size))) = a := fun m => by
    split
    · rfl
    · cases a <;> simp [Addr.add]
  have hid' : ∀ m : Nat, (if m = 0 then a else a.map (·.add 0)) = a := fun m => by
    split
    · rfl
    · cases a <;> simp [Addr.add]
  rcases lo with _ | ⟨kl, l⟩ <;> rcases hi with _ | ⟨kh, u⟩ <;> rcases mx with _ | ⟨km, m⟩ <;> simp only [cutX, ins, Option.map_none, Option.map_some] at h
  · refine ⟨0, len, cap, by simp [Instr.sliceBounds, ivs], ?_⟩
    rw [hid]; simpa using h
  · obtain ⟨⟨h0, h1⟩, hk⟩ := h
    refine ⟨0, u.toNat, cap, by simp [Instr.sliceBounds, ivs, bound_run kh u cap _ h0 h1], ?_⟩
    rw [hid]; simpa using hk
  · obtain ⟨⟨h0, h1, h2⟩, hk⟩ := h
    have e1 := fun w => bound_run (P := P) (w := w) km m cap (if isS then .slice3Acap else .slice3Alen) (by omega) h2
    have e2 := fun w => bound_run (P := P) (w := w) kh u m.toNat .slice3B h0 (by omega)
    refine ⟨0, u.toNat, m.toNat, by simp [Instr.sliceBounds, ivs, e1, e2], ?_⟩
    rw [hid]; simpa using hk
  · obtain ⟨⟨h0, h1⟩, hk⟩ := h
    refine ⟨l.toNat, len, cap, by simp [Instr.sliceBounds, ivs, bound_run kl l len _ h0 h1], ?_⟩
    simpa [subSlice, scale_eq] using hk
  · obtain ⟨⟨h0, h1, h2⟩, hk⟩ := h
    have e1 := fun w => bound_run (P := P) (w := w) kh u cap (if isS then .sliceAcap else .sliceAlen) (by omega) h2
    have e2 := fun w => bound_run (P := P) (w := w) kl l u.toNat .sliceB h0 (by omega)
    refine ⟨l.toNat, u.toNat, cap, by simp [Instr.sliceBounds, ivs, e1, e2], ?_⟩
    simpa [subSlice, scale_eq] using hk
  · obtain ⟨⟨h0, h1, h2, h3⟩, hk⟩ := h
    have e1 := fun w => bound_run (P := P) (w := w) km m cap (if isS then .slice3Acap else .slice3Alen) (by omega) h3
    have e2 := fun w => bound_run (P := P) (w := w) kh u m.toNat .slice3B (by omega) (by omega)
    have e3 := fun w => bound_run (P := P) (w := w) kl l u.toNat .slice3C h0 (by omega)
    refine ⟨l.toNat, u.toNat, m.toNat, by simp [Instr.sliceBounds, ivs, e1, e2, e3], ?_⟩
    simpa [subSlice, scale_eq] using hk
theorem cutStr_run {P : Program} {s : ByteArray} {lo hi mx : Option (IntKind × Int)} {k : Value → Prop} (h : cutStr s (ins lo) (ins hi) (ins mx) k) :
    mx = none ∧ ∃ l u m, (∀ w : World, (Instr.sliceBounds false s.size s.size (ivs lo) (ivs hi) none).run P w = .ok (l, u, m) w) ∧ k (.string (s.extract l u)) := by
  rcases lo with _ | ⟨kl, l⟩ <;> rcases hi with _ | ⟨kh, u⟩ <;> rcases mx with _ | ⟨km, m⟩ <;> simp only [cutStr, ins, Option.map_none, Option.map_some] at h <;> first | exact h.elim | refine ⟨rfl, ?_⟩
  · refine ⟨0, s.size, s.size, by simp [Instr.sliceBounds, ivs], ?_⟩
    rw [ByteArray.extract_zero_size]; exact h
  · obtain ⟨⟨h0, h1⟩, hk⟩ := h
    exact ⟨0, u.toNat, s.size, by simp [Instr.sliceBounds, ivs, bound_run kh u s.size _ h0 h1], hk⟩
  · obtain ⟨⟨h0, h1⟩, hk⟩ := h
    exact ⟨l.toNat, s.size, s.size, by simp [Instr.sliceBounds, ivs, bound_run kl l s.size _ h0 h1], hk⟩
  · obtain ⟨⟨h0, h1, h2⟩, hk⟩ := h
    have e1 := fun w => bound_run (P := P) (w := w) kh u s.size .sliceAlen (by omega) h2
    have e2 := fun w => bound_run (P := P) (w := w) kl l u.toNat .sliceB h0 (by omega)
    exact ⟨l.toNat, u.toNat, s.size, by simp [Instr.sliceBounds, ivs, e1, e2], hk⟩

theorem sliceX_to {P : Program} {t : Nat} {d : TypeDesc} (hd : P.underlying t = some d) {size : Nat}
    (he : ∀ e, (descSum d = .slice e ∨ ∃ n, descSum d = .arr n e) → ∃ i, P.info? e = some i ∧ i.size = size) {x : Value} {lo hi mx : Option (IntKind × Int)} {k : Value → Prop}
    (h : sliceX (descSum d) size x (ins lo) (ins hi) (ins mx) k) : Qt P (Instr.sliceAt t x (ivs lo) (ivs hi) (ivs mx)) k := by
  cases d with
  | string =>
    cases x <;> try exact h.elim
    rename_i s
    obtain ⟨rfl, l, u, m, hr, hk⟩ := cutStr_run (P := P) h
    refine ⟨_, fun w => ?_, hk⟩
    simp only [Instr.sliceAt, Instr.slice, Sem.run_bind, run_underlying hd, Result.andThen_ok]
    simp [ivs] at hr ⊢
    simp [hr]
  | slice e =>
    cases x <;> try exact h.elim
    rename_i a l c
    obtain ⟨i, hi', hs⟩ := he e (.inl rfl)
    obtain ⟨l', u, m, hr, hk⟩ := cutX_run (P := P) (isS := true) h
    refine ⟨_, fun w => ?_, hk⟩
    simp only [Instr.sliceAt, Instr.slice, Sem.run_bind, run_underlying hd, Result.andThen_ok, hr, run_sizeOf_ok hi', hs, Sem.run_pure]
  | array n e =>
    cases x <;> try exact h.elim
    rename_i q
    cases q with
    | none => exact h.elim
    | some p =>
      obtain ⟨i, hi', hs⟩ := he e (.inr ⟨n, rfl⟩)
      obtain ⟨l', u, m, hr, hk⟩ := cutX_run (P := P) (isS := false) (show cutX (some p) n n size (ins lo) (ins hi) (ins mx) k from h)
      refine ⟨_, fun w => ?_, hk⟩
      simp only [Instr.sliceAt, Instr.sureAddr, Sem.run_bind, run_underlying hd, Result.andThen_ok, hr, run_sizeOf_ok hi', hs, Sem.run_pure]
      congr 2
      split <;> simp
  | _ => cases x <;> exact h.elim

/-! Reading what is taken in. -/
theorem firstCells_some_to {P : Program} {w : World} {size n : Nat} {b : Option Addr} {len cap : Nat} {cs : List Value} (hl : cs.length = n * size) (h : SlCells w.heap b cs) :
    (Builtin.firstCells size n (.slice b len cap)).run P w = .ok ⟨cs⟩ w := by
  cases b with
  | none =>
    have : cs = [] := h
    subst this
    simp [Builtin.firstCells]
  | some p => exact run_firstCells_some (P := P) w size n p len cap cs hl (fun j v hv => h j v hv)
theorem firstCells_str {P : Program} {w : World} {s : ByteArray} {n : Nat} :
    (Builtin.firstCells 1 n (.string s)).run P w = .ok ⟨(s.toList.take n).map bv⟩ w := by
  simp only [Builtin.firstCells, Sem.run_pure]
  congr 1
  apply Array.ext'
  simp [ByteArray.toList_eq]
  rfl

/-- what a source comes to -/
structure Src (P : Program) (size : Nat) (x : Value) (h : Heap) (n : Nat) (new : List Value) : Prop where
  len : ∀ w : World, w.heap = h → (Builtin.lenOf x).run P w = .ok n w
  cells : ∀ w : World, w.heap = h → (Builtin.firstCells size n x).run P w = .ok ⟨new⟩ w
  length : new.length = n * size
  one : ∀ v ∈ new, v.oneCell' = true
theorem oneCell_bv (b : UInt8) : (bv b).oneCell' = true := rfl
theorem srcX_to {P : Program} {x : TI} {v : Value} {h : Heap} {k : Nat → List Value → Prop} (hk : srcX x h v k) : ∃ n new, Src P x.cells v h n new ∧ k n new := by
  cases v <;> try exact hk.elim
  · rename_i s
    unfold srcX at hk
    cases hb : Nat.beq x.cells 1 with
    | false => simp [hb] at hk
    | true =>
      have e : x.cells = 1 := Nat.eq_of_beq_eq_true hb
      simp [hb] at hk
      refine ⟨_, _, ⟨fun w _ => rfl, fun w _ => ?_, ?_, ?_⟩, hk⟩
      · rw [e]
        have := firstCells_str (P := P) (w := w) (s := s) (n := s.size)
        have hl : s.toList.length = s.size := by rw [ByteArray.toList_eq]; simp
        rw [List.take_of_length_le (by omega)] at this
        exact this
      · rw [e, ByteArray.toList_eq]; simp
      · intro v hv
        obtain ⟨b, _, rfl⟩ := List.mem_map.1 hv
        rfl
  · rename_i b n c
    obtain ⟨new, h1, h2, h3, hk⟩ := hk
    exact ⟨n, new, ⟨fun w _ => rfl, fun w hw => firstCells_some_to h1 (hw ▸ h2), h1, h3⟩, hk⟩

theorem append_to {P : Program} {t t' e ty : Nat} {x : TI} (ht : ∃ d, P.underlying t = some d ∧ descSum d = .slice e) (ht' : (∃ e', P.underlying t' = some (.slice e')) ∨ P.underlying t' = some .string)
    (hx : TIok P e x) {a : Option Addr} {l c n : Nat} {v : Value} {new : List Value} {w : World} {k : Option Addr → Nat → Nat → Heap → Prop} (hs : Src P x.cells v w.heap n new)
    (h : AppendP x e a l c n new w.heap k) : To P (Builtin.append_ #[t, t'] ty #[.slice a l c, v]) w fun r h' => ∃ a' l' c', r = .slice a' l' c' ∧ k a' l' c' h' := by
  obtain ⟨i, d, z, hi, hd, hdx, hsz, hb, hz, hzc⟩ := hx.get
  obtain ⟨dt, hdt, hse⟩ := ht
  have hu : P.underlying t = some (.slice e) := by cases dt <;> simp [descSum] at hse; subst hse; exact hdt
  obtain ⟨old, ho, hoc, hbytes, hlen, hfit, hgrow⟩ := h
  by_cases hc : l + n ≤ c
  · obtain ⟨hwr, hk⟩ := hfit hc
    have hst : ∃ w', (match a with | some a => storeCells (a.add (l * i.size)) new | none => Pure.pure () : Sem Unit).run P w = .ok () w' ∧ SameRest w w' ∧ w'.heap = setS w.heap a (l * x.cells) new := by
      cases a with
      | none => exact ⟨w, rfl, .refl _, rfl⟩
      | some p =>
        have := storeCells_to (P := P) (p.add (l * x.cells)) new 0 w hs.one (fun j hj => by
          rw [Nat.zero_add]; exact hwr j (by rw [← hs.length]; exact hj))
        exact ⟨_, by rw [hsz]; exact this, setW_rest _ _, rfl⟩
    obtain ⟨w', h1, h2, h3⟩ := hst
    refine ⟨.slice a (l + n) c, w', ?_, h2, a, l + n, c, rfl, by rw [h3]; exact hk⟩
    have hcs := hs.cells w rfl
    rw [← hsz] at hcs
    rcases ht' with ⟨e', ht'⟩ | ht'
    all_goals
      simp only [Builtin.append_, List.getElem?_toArray, List.getElem?_cons_zero, List.getElem?_cons_succ, Sem.run_bind, run_underlying hu, run_underlying ht', Result.andThen_ok, run_sizeOf_ok hi, Sem.run_pure, Bool.false_eq_true, if_false, Bool.not_false, if_true, hs.len w rfl, Sem.run_ite, if_pos hc, hcs]
      cases a with
      | none => simp at h1 ⊢; exact h1
      | some p => simp only at h1; simp [h1]
  · have hg : c < l + n := by omega
    have hk := hgrow hg
    have hfits := growslice_fits (bytes := i.bytes) hg (by rw [hb]; exact hbytes)
    have h48 : ¬ (Builtin.nextslicecap (l + n) c * i.bytes > 2 ^ 48) := by
      have e : (2 : Nat) ^ 48 = 281474976710656 := by decide
      rw [e]; omega
    have h63 : ¬ (((l + n : Nat) : Int) > IntKind.i64.max ∧ (false = true ∨ i.bytes = 0)) := by
      have e : IntKind.max .i64 = 9223372036854775807 := by decide
      rw [e]; omega
    let w1 : World := { w with drawn := w.drawn + 1 }
    let cap := (Question.appendCap (l + n) c e).cut (w.tape w.drawn (Question.appendCap (l + n) c e))
    have hcap : l + n ≤ cap := by show l + n ≤ Question.cut _ _; simp [Question.cut]
    have hcs := hs.cells w1 rfl
    rw [← hsz] at hcs
    have hos := firstCells_some_to (P := P) (w := w1) (size := i.size) (n := l) (len := l) (cap := c) (by rw [hsz]; exact ho) hoc
    refine ⟨.slice (some ⟨w.heap.size, 0, none⟩) (l + n) cap, w1.alloc (.cells ⟨old ++ new ++ repCells x.zero (cap - (l + n))⟩ e), ?_, ⟨rfl, rfl, rfl⟩, _, _, _, rfl, hk cap hcap⟩
    have hzv : (zeroValue e).run P w1 = .ok z w1 := by simp [zeroValue, run_typeInfo_ok hi, hz]
    have hch : (choose (Question.appendCap (l + n) c e)).run P w = .ok cap w1 := by simp [Question.forced, w1, cap]
    rcases ht' with ⟨e', ht'⟩ | ht'
    all_goals
      simp only [Builtin.append_, List.getElem?_toArray, List.getElem?_cons_zero, List.getElem?_cons_succ, Sem.run_bind, run_underlying hu, run_underlying ht', Result.andThen_ok, run_sizeOf_ok hi, Sem.run_pure, Bool.false_eq_true, if_false, Bool.not_false, if_true, hs.len w rfl, Sem.run_ite, if_neg hc, run_typeInfo_ok hi, if_neg h48]
      rw [if_neg (by simpa using h63)]
      simp only [Sem.run_bind, Result.andThen_ok, hch, run_askRoom, hos, hcs, hzv, newRow, run_newObj, Sem.run_pure, zeroCells_eq, hzc]
      congr 2
      simp
end Go.Proofs.Ytnbfaokpaiiojaa.Wx
