import Derived.Test.YtnbfaokpaiiojaaWxC
namespace Go.Proofs.Ytnbfaokpaiiojaa.Wx
open Go

theorem setS_to {P : Program} {w : World} (a : Option Addr) (o : Nat) (new : List Value) (h1 : ∀ v ∈ new, v.oneCell' = true) (h2 : WrS w.heap a o new.length) :
    ∃ w', (match a with | some a => storeCells (a.add o) new | none => Pure.pure () : Sem Unit).run P w = .ok () w' ∧ SameRest w w' ∧ w'.heap = setS w.heap a o new := by
  cases a with
  | none => exact ⟨w, rfl, .refl _, rfl⟩
  | some p =>
    have := storeCells_to (P := P) (p.add o) new 0 w h1 (fun j hj => by rw [Nat.zero_add]; exact h2 j hj)
    exact ⟨_, this, setW_rest _ _, rfl⟩

theorem copy_to {P : Program} {t t' e ty : Nat} {x : TI} (ht : ∃ d, P.underlying t = some d ∧ descSum d = .slice e)
    (hx : TIok P e x) {a : Option Addr} {n c : Nat} {v : Value} {w : World} {k : Nat → Heap → Prop}
    (h : CopyP x a n v w.heap k) : To P (Builtin.copy_ #[t, t'] ty #[.slice a n c, v]) w fun r h' => ∃ m : Nat, r = .int .i64 (m : Int) ∧ k m h' := by
  obtain ⟨i, d, z, hi, hd, hdx, hsz, hb, hz, hzc⟩ := hx.get
  obtain ⟨dt, hdt, hse⟩ := ht
  have hu : P.underlying t = some (.slice e) := by cases dt <;> simp [descSum] at hse; subst hse; exact hdt
  have key : ∀ (m : Nat) (new : List Value), (∀ w' : World, w'.heap = w.heap → (Builtin.lenOf v).run P w' = .ok m w') →
      (∀ w' : World, w'.heap = w.heap → (Builtin.firstCells x.cells (min m n) v).run P w' = .ok ⟨new⟩ w') → (∀ u ∈ new, u.oneCell' = true) → WrS w.heap a 0 new.length → k (min m n) (setS w.heap a 0 new) →
      To P (Builtin.copy_ #[t, t'] ty #[.slice a n c, v]) w fun r h' => ∃ m : Nat, r = .int .i64 (m : Int) ∧ k m h' := by
    intro m new hl hc h1 hw hk
    obtain ⟨w', hs1, hs2, hs3⟩ := setS_to (P := P) (w := w) a 0 new h1 hw
    refine ⟨.int .i64 ((min m n : Nat) : Int), w', ?_, hs2, min m n, rfl, by rw [hs3]; exact hk⟩
    have hcs := hc w rfl
    rw [← hsz] at hcs
    have e : Nat.min m n = min m n := rfl
    cases a with
    | none =>
      simp only [Sem.run_pure, Result.ok.injEq, true_and] at hs1
      subst hs1
      simp [Builtin.copy_, run_underlying hu, hl w rfl, run_sizeOf_ok hi, e, hcs, goInt]
    | some p =>
      simp only [Addr.add_zero] at hs1
      simp [Builtin.copy_, run_underlying hu, hl w rfl, run_sizeOf_ok hi, e, hcs, hs1, goInt]
  cases v <;> try exact h.elim
  · rename_i s
    obtain ⟨hb1, hw, hk⟩ := h
    have e1 : x.cells = 1 := by
      cases hbb : Nat.beq x.cells 1 with
      | true => exact Nat.eq_of_beq_eq_true hbb
      | false => simp [hbb] at hb1
    refine key s.size ((s.toList.take (min s.size n)).map bv) (fun w' _ => rfl) (fun w' _ => ?_) ?_ ?_ hk
    · rw [e1]; exact firstCells_str
    · intro u hu
      obtain ⟨b, _, rfl⟩ := List.mem_map.1 hu
      rfl
    · have hl : s.toList.length = s.size := by rw [ByteArray.toList_eq]; simp
      have : ((s.toList.take (min s.size n)).map bv).length = min s.size n := by simp [hl]
      rw [this]; exact hw
  · rename_i b m c'
    obtain ⟨new, hl, hc, h1, hw, hk⟩ := h
    refine key m new (fun w' _ => rfl) (fun w' hw' => firstCells_some_to hl (hw' ▸ hc)) h1 ?_ hk
    rw [hl]; exact hw

/-! Composites. -/
theorem foldl_set (v : List Value) : ∀ (off j : Nat) (cells : Array Value), off + j + v.length ≤ cells.size →
    ((v.zipIdx j).foldl (fun cs (p : Value × Nat) => cs.setIfInBounds (off + p.2) p.1) cells).toList = cells.toList.take (off + j) ++ v ++ cells.toList.drop (off + j + v.length) := by
  induction v with
  | nil => intro off j cells _; simp
  | cons x r ih =>
    intro off j cells hl
    simp only [List.length_cons] at hl
    simp only [List.zipIdx_cons, List.foldl_cons]
    rw [ih off (j + 1) _ (by simp; omega)]
    have hlt : off + j < cells.toList.length := by simp; omega
    simp only [Array.toList_setIfInBounds, ← Nat.add_assoc]
    have e := list_seg_step cells.toList (off + j) x r (by simp; omega)
    simpa [Nat.add_assoc, Nat.add_comm, Nat.add_left_comm] using e

def fstep (place : Nat → Option (Nat × Nat)) (l : List Value) (q : Nat × Value) : List Value :=
  match place q.1 with | some (off, size) => l.take off ++ cellsL q.2 ++ l.drop (off + size) | none => l
theorem fill_to (place : Nat → Option (Nat × Nat)) (Z : List Value) : ∀ (parts : List (Nat × Value)) (cells : Array Value), cells.size = Z.length →
    (∀ q ∈ parts, ∃ off size, place q.1 = some (off, size) ∧ q.2.cells.size = size ∧ off + size ≤ Z.length) →
    ∃ cells', Instr.fill place cells parts = some cells' ∧ cells'.size = Z.length ∧
      cells'.toList = parts.foldl (fstep place) cells.toList
  | [], cells, hs, _ => ⟨cells, rfl, hs, rfl⟩
  | (i, v) :: r, cells, hs, h => by
    obtain ⟨off, size, hp, hv, hle⟩ := h (i, v) (by simp)
    simp only at hp hv
    have hle' : off + v.cells.size ≤ cells.size := by rw [hs, hv]; exact hle
    have hf := foldl_set v.cells.toList off 0 cells (by simpa using hle')
    simp only [Nat.add_zero] at hf
    have e1 : (v.cells.zipIdx.foldl (fun cs (p : Value × Nat) => cs.setIfInBounds (off + p.2) p.1) cells) = (v.cells.toList.zipIdx.foldl (fun cs (p : Value × Nat) => cs.setIfInBounds (off + p.2) p.1) cells) := by
      rw [← Array.foldl_toList, Array.toList_zipIdx]
    have hsz' : (v.cells.zipIdx.foldl (fun cs (p : Value × Nat) => cs.setIfInBounds (off + p.2) p.1) cells).size = Z.length := by
      rw [e1, ← Array.length_toList, hf]
      simp only [List.length_append, List.length_take, List.length_drop, Array.length_toList]
      omega
    obtain ⟨c', h1, h2, h3⟩ := fill_to place Z r _ hsz' (fun q hq => h q (by simp [hq]))
    refine ⟨c', ?_, h2, ?_⟩
    · simp only [Instr.fill, hp]
      rw [if_neg]
      · exact h1
      · simp only [Bool.or_eq_true, decide_eq_true_eq, not_or, ne_eq, Decidable.not_not, Nat.not_lt]
        exact ⟨hv, hle'⟩
    · rw [h3, e1, hf]
      simp only [List.foldl_cons, fstep, hp, cellsL_eq]
      rw [← hv]
      simp

theorem catAll_eq : ∀ xs : List (List Value), catAll xs = xs.flatten
  | [] => rfl
  | [x] => by simp [catAll]
  | x :: y :: r => by
    show x ++ catAll (y :: r) = _
    rw [catAll_eq (y :: r)]; simp

def evalO (f : Fr) (x : Operand) : Option Value :=
  match x with | .tmp t => Fr.get f t | .const v => some v | .global g => some (.pointer (some ⟨g, 0, none⟩)) | .func g => some (.func (.func g) #[] #[])
theorem findPart_cons (f : Fr) (i j : Nat) (x : Operand) (r : List (Nat × Operand)) : findPart f i ((j, x) :: r) = bif Nat.beq j i then some (evalO f x) else findPart f i r := rfl
theorem sorted_cons {n m j : Nat} {x : Operand} {r : List (Nat × Operand)} (h : sorted n ((j, x) :: r) m = true) : m ≤ j ∧ j < n ∧ sorted n r (j + 1) = true := by
  simp only [sorted, Bool.and_eq_true] at h
  exact ⟨Nat.le_of_ble_eq_true h.1.1, Nat.le_of_ble_eq_true h.1.2, h.2⟩
theorem sorted_weak {n : Nat} : ∀ {r : List (Nat × Operand)} {m m' : Nat}, sorted n r m = true → m' ≤ m → sorted n r m' = true
  | [], _, _, _, _ => rfl
  | (j, x) :: r, m, m', h, hm => by
    obtain ⟨h1, h2, h3⟩ := sorted_cons h
    simp only [sorted, Bool.and_eq_true]
    exact ⟨⟨Nat.ble_eq_true_of_le (by omega), Nat.ble_eq_true_of_le h2⟩, h3⟩
theorem findPart_none {f : Fr} {n i : Nat} : ∀ {r : List (Nat × Operand)} {m : Nat}, sorted n r m = true → i < m → findPart f i r = none
  | [], _, _, _ => rfl
  | (j, x) :: r, m, h, hm => by
    obtain ⟨h1, h2, h3⟩ := sorted_cons h
    have : Nat.beq j i = false := by
      cases hb : Nat.beq j i with
      | false => rfl
      | true => have := Nat.eq_of_beq_eq_true hb; omega
    rw [findPart_cons, this]
    exact findPart_none h3 (by omega)
theorem parts_fold {f : Fr} {ρ : Operand → Value} (hρ : ∀ x v, evalO f x = some v → ρ x = v) (place : Nat → Option (Nat × Nat)) (Z : List Value) :
    ∀ (segs : List (Nat × Nat)) (i m : Nat) (parts : List (Nat × Operand)) (acc : List (List Value)) (k : List (List Value) → Prop) (pre : List Value),
    partsX f parts Z segs i acc k → sorted (i + segs.length) parts i = true → (∀ idx, idx < segs.length → place (i + idx) = segs[idx]?) → layB segs m Z.length = true → pre.length = m →
    ∃ pcs : List (List Value), k (acc ++ pcs) ∧ (parts.map fun q => (q.1, ρ q.2)).foldl (fstep place) (pre ++ Z.drop m) = pre ++ pcs.flatten ∧
      ∀ q ∈ parts, ∃ off size, place q.1 = some (off, size) ∧ (ρ q.2).cells.size = size ∧ off + size ≤ Z.length
  | [], i, m, parts, acc, k, pre, h, hs, hp, hl, hm => by
    have hz : m = Z.length := Nat.eq_of_beq_eq_true hl
    cases parts with
    | nil => exact ⟨[], by simpa [partsX] using h, by simp [hz], by simp⟩
    | cons q r =>
      obtain ⟨h1, h2, _⟩ := sorted_cons (x := q.2) (j := q.1) (r := r) hs
      simp at h2; omega
  | (off, size) :: r, i, m, parts, acc, k, pre, h, hs, hp, hl, hm => by
    simp only [layB, Bool.and_eq_true] at hl
    have ho : off = m := Nat.eq_of_beq_eq_true hl.1
    subst ho
    have hlay := hl.2
    have hmZ : ∀ (s : List (Nat × Nat)) (a : Nat), layB s a Z.length = true → a ≤ Z.length := by
      intro s
      induction s with
      | nil => intro a ha; exact Nat.le_of_eq (Nat.eq_of_beq_eq_true ha)
      | cons x s ih =>
        intro a ha
        obtain ⟨x1, x2⟩ := x
        simp only [layB, Bool.and_eq_true] at ha
        have := ih _ ha.2
        omega
    have hle := hmZ _ _ hlay
    have hp0 : place i = some (off, size) := by simpa using hp 0 (by simp)
    have hp' : ∀ idx, idx < r.length → place (i + 1 + idx) = r[idx]? := fun idx hi => by
      have := hp (idx + 1) (by simp; omega)
      rw [show i + 1 + idx = i + (idx + 1) by omega]
      simpa using this
    have hlen : i + ((off, size) :: r).length = i + 1 + r.length := by simp; omega
    rw [hlen] at hs
    have skip : (∀ q ∈ parts, i < q.1) → findPart f i parts = none → ∃ pcs : List (List Value), k (acc ++ pcs) ∧ (parts.map fun q => (q.1, ρ q.2)).foldl (fstep place) (pre ++ Z.drop off) = pre ++ pcs.flatten ∧
        ∀ q ∈ parts, ∃ off size, place q.1 = some (off, size) ∧ (ρ q.2).cells.size = size ∧ off + size ≤ Z.length := by
      intro hgt hnone
      have hs' : sorted (i + 1 + r.length) parts (i + 1) = true := by
        cases parts with
        | nil => rfl
        | cons q t =>
          obtain ⟨q1, q2⟩ := q
          obtain ⟨a1, a2, a3⟩ := sorted_cons hs
          have := hgt (q1, q2) (by simp)
          simp only [sorted, Bool.and_eq_true]
          exact ⟨⟨Nat.ble_eq_true_of_le this, Nat.ble_eq_true_of_le a2⟩, a3⟩
      simp only [partsX, hnone] at h
      obtain ⟨pcs, h1, h2, h3⟩ := parts_fold hρ place Z r (i + 1) (off + size) parts _ k (pre ++ (Z.drop off).take size) h hs' hp' hlay (by simp; omega)
      refine ⟨(Z.drop off).take size :: pcs, by simpa using h1, ?_, h3⟩
      have e : pre ++ (Z.drop off).take size ++ Z.drop (off + size) = pre ++ Z.drop off := by
        rw [List.append_assoc, ← List.drop_drop, List.take_append_drop]
      rw [e] at h2
      rw [h2]; simp
    cases parts with
    | nil => exact skip (by simp) rfl
    | cons q t =>
      obtain ⟨j, x⟩ := q
      obtain ⟨a1, a2, a3⟩ := sorted_cons hs
      cases hb : Nat.beq j i with
      | false =>
        have hne : j ≠ i := fun e => by subst e; rw [Nat.beq_refl] at hb; cases hb
        refine skip ?_ ?_
        · intro q hq
          rcases List.mem_cons.1 hq with rfl | hq
          · exact Nat.lt_of_le_of_ne a1 (Ne.symm hne)
          · have : ∀ (l : List (Nat × Operand)) (b : Nat), sorted (i + 1 + r.length) l b = true → ∀ q ∈ l, b ≤ q.1 := by
              intro l
              induction l with
              | nil => intro b _ q hq; simp at hq
              | cons y l ih =>
                intro b hb q hq
                obtain ⟨y1, y2⟩ := y
                obtain ⟨b1, b2, b3⟩ := sorted_cons hb
                rcases List.mem_cons.1 hq with rfl | hq
                · exact b1
                · have := ih _ b3 q hq; omega
            have := this t _ a3 q hq
            omega
        · rw [findPart_cons, hb]; exact findPart_none a3 (by omega)
      | true =>
        have he : j = i := Nat.eq_of_beq_eq_true hb
        subst he
        have hfp : findPart f j ((j, x) :: t) = some (evalO f x) := by rw [findPart_cons, hb]; rfl
        -- the rest of the parts lies behind
        have rest : ∀ (v : Value), evalO f x = some v → (cellsL v).length = size → partsX f ((j, x) :: t) Z r (j + 1) (acc ++ [cellsL v]) k → (∃ pcs : List (List Value), k (acc ++ pcs) ∧ (((j, x) :: t).map fun q => (q.1, ρ q.2)).foldl (fstep place) (pre ++ Z.drop off) = pre ++ pcs.flatten ∧
              ∀ q ∈ (j, x) :: t, ∃ off size, place q.1 = some (off, size) ∧ (ρ q.2).cells.size = size ∧ off + size ≤ Z.length) := fun v hv hsz hpx => by
          have hpx' : partsX f t Z r (j + 1) (acc ++ [cellsL v]) k := by
            have drop : ∀ (s : List (Nat × Nat)) (b : Nat) (ac : List (List Value)), j < b → partsX f ((j, x) :: t) Z s b ac k → partsX f t Z s b ac k := by
              intro s
              induction s with
              | nil => intro b ac _ h; exact h
              | cons y s ih =>
                intro b ac hb h
                obtain ⟨y1, y2⟩ := y
                have hf : findPart f b ((j, x) :: t) = findPart f b t := by
                  rw [findPart_cons]
                  have : Nat.beq j b = false := by
                    cases hbb : Nat.beq j b with
                    | false => rfl
                    | true => have := Nat.eq_of_beq_eq_true hbb; omega
                  rw [this]; rfl
                simp only [partsX, hf] at h ⊢
                cases hfb : findPart f b t with
                | none => rw [hfb] at h; exact ih _ _ (by omega) h
                | some o =>
                  rw [hfb] at h
                  cases o with
                  | none => exact h
                  | some v =>
                    simp only [onSome] at h ⊢
                    cases v with
                    | agg a => exact ⟨h.1, ih _ _ (by omega) h.2⟩
                    | tuple a => exact h
                    | _ =>
                      simp only at h ⊢
                      cases hq : Nat.beq y2 1 with
                      | false => rw [hq] at h; exact h
                      | true => rw [hq] at h; exact ih _ _ (by omega) h
            exact drop r (j + 1) _ (by omega) hpx
          obtain ⟨pcs, h1, h2, h3⟩ := parts_fold hρ place Z r (j + 1) (off + size) t _ k (pre ++ cellsL v) hpx' a3 hp' hlay (by simp; omega)
          have hv' := hρ x v hv
          refine ⟨cellsL v :: pcs, by simpa using h1, ?_, ?_⟩
          · have e : fstep place (pre ++ Z.drop off) (j, ρ x) = pre ++ cellsL v ++ Z.drop (off + size) := by
              simp only [fstep, hp0, hv']
              rw [List.take_append_of_le_length (by omega), List.take_of_length_le (by omega), List.drop_append]
              rw [List.drop_of_length_le (by omega)]
              simp [hm, List.drop_drop]
            simp only [List.map_cons, List.foldl_cons, e, h2]
            simp
          · intro q hq
            rcases List.mem_cons.1 hq with rfl | hq
            · exact ⟨off, size, hp0, by rw [hv', ← Array.length_toList, ← cellsL_eq]; exact hsz, hle⟩
            · exact h3 q hq
        simp only [partsX, hfp] at h
        cases hev : evalO f x with
        | none => rw [hev] at h; exact h.elim
        | some v =>
          rw [hev] at h
          simp only [onSome] at h
          cases v with
          | agg a => exact rest (.agg a) hev h.1 h.2
          | tuple a => exact h.elim
          | _ =>
            simp only at h
            cases hq : Nat.beq size 1 with
            | false => rw [hq] at h; exact h.elim
            | true =>
              rw [hq] at h
              have : size = 1 := Nat.eq_of_beq_eq_true hq
              exact rest _ hev (by rw [this]; rfl) h
end Go.Proofs.Ytnbfaokpaiiojaa.Wx
