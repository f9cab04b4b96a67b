import Derived.Test.YtnbfaokpaiiojaaWxD
import Derived.Laws.Tables
namespace Go.Proofs.Ytnbfaokpaiiojaa.Wx
open Go

/-- the composite of parts -/
theorem fill_parts {f : Fr} {ρ : Operand → Value} (hρ : ∀ x v, evalO f x = some v → ρ x = v) (place : Nat → Option (Nat × Nat)) (Z : List Value) (segs : List (Nat × Nat)) (parts : List (Nat × Operand))
    (k : List (List Value) → Prop) (h : partsX f parts Z segs 0 [] k) (hs : sorted segs.length parts 0 = true) (hp : ∀ idx, idx < segs.length → place idx = segs[idx]?) (hl : layB segs 0 Z.length = true) :
    ∃ pcs, k pcs ∧ Instr.fill place ⟨Z⟩ (parts.map fun q => (q.1, ρ q.2)) = some ⟨catAll pcs⟩ := by
  obtain ⟨pcs, h1, h2, h3⟩ := parts_fold hρ place Z segs 0 0 parts [] k [] h (by simpa using hs) (by simpa using hp) hl rfl
  obtain ⟨c', f1, f2, f3⟩ := fill_to place Z (parts.map fun q => (q.1, ρ q.2)) ⟨Z⟩ (by simp) (by
    intro q hq
    obtain ⟨p, hp, rfl⟩ := List.mem_map.1 hq
    exact h3 p hp)
  refine ⟨pcs, by simpa using h1, ?_⟩
  rw [f1]
  congr 1
  apply Array.ext'
  rw [f3]
  simp only [List.nil_append, List.drop_zero] at h2
  rw [h2, catAll_eq]

theorem parts_toList (parts : Array (Nat × Operand)) (ρ : Operand → Value) : (parts.map fun (i, x) => (i, ρ x)).toList = parts.toList.map fun q => (q.1, ρ q.2) := by simp

theorem evenSegs_length (size : Nat) : ∀ (n i : Nat), (evenSegs size n i).length = n
  | 0, _ => rfl
  | n + 1, i => by simp [evenSegs, evenSegs_length size n (i + 1)]
theorem evenSegs_get (size : Nat) : ∀ (n i idx : Nat), idx < n → (evenSegs size n i)[idx]? = some ((i + idx) * size, size)
  | 0, _, _, h => by omega
  | n + 1, i, 0, _ => by simp [evenSegs]
  | n + 1, i, idx + 1, h => by
    simp only [evenSegs, List.getElem?_cons_succ]
    rw [evenSegs_get size n (i + 1) idx (by omega)]
    rw [show i + 1 + idx = i + (idx + 1) by omega]
theorem evenSegs_lay (size : Nat) : ∀ (n i : Nat), layB (evenSegs size n i) (i * size) ((i + n) * size) = true
  | 0, i => by simp [evenSegs, layB]
  | n + 1, i => by
    simp only [evenSegs, layB, Bool.and_eq_true]
    refine ⟨by simp, ?_⟩
    have := evenSegs_lay size n (i + 1)
    rw [show i * size + size = (i + 1) * size by rw [Nat.add_mul, Nat.one_mul], show i + (n + 1) = i + 1 + n by omega]
    exact this

theorem build_struct_to {C : Ctx} (hC : CtxOk C) {t : Nat} {fs : List (Nat × Nat)} (hx : TIok C.P t (C.ti t)) (hd : (C.ti t).d = .struct fs) {f : Fr} {ρ : Operand → Value} (hρ : ∀ x v, evalO f x = some v → ρ x = v)
    {parts : Array (Nat × Operand)} {k : Value → Prop}
    (h1 : isFull fs.length parts.toList = true) (h2 : (fs.all fun x => (C.ti x.2).ok) = true) (h3 : layB (fs.map fun x => (x.1, (C.ti x.2).cells)) 0 (C.ti t).cells = true)
    (h : partsX f parts.toList (C.ti t).zero (fs.map fun x => (x.1, (C.ti x.2).cells)) 0 [] fun xs => k (.agg ⟨catAll xs⟩)) :
    Qt C.P (Instr.build t (parts.map fun (i, x) => (i, ρ x))) k := by
  obtain ⟨i, d, z, hi, hu, hdx, hsz, hb, hz, hzc⟩ := hx.get
  rw [hd] at hdx
  cases d <;> simp [descSum] at hdx
  rename_i fields
  let segs := fs.map fun x => (x.1, (C.ti x.2).cells)
  have hplaces : fields.toList.mapM (fun f => (C.P.info? f.type).map fun i => (f.offset, i.size)) = some segs := by
    have key : ∀ l : List Field, (∀ x ∈ l.map (fun f => (f.offset, f.type)), (C.ti x.2).ok = true) →
        l.mapM (fun f => (C.P.info? f.type).map fun i => (f.offset, i.size)) = some ((l.map fun f => (f.offset, f.type)).map fun x => (x.1, (C.ti x.2).cells)) := by
      intro l
      induction l with
      | nil => intro _; rfl
      | cons a l ih =>
        intro hall
        have ha := hC.ok (hall (a.offset, a.type) (by simp))
        obtain ⟨ia, _, _, hia, _, _, hsa, _⟩ := ha.get
        rw [List.mapM_cons, ih (fun x hx => hall x (by simp only [List.map_cons, List.mem_cons]; exact .inr hx))]
        simp only [hia, Option.map_some, List.map_cons, hsa]
        rfl
    rw [key fields.toList (by rw [hdx]; simpa using h2), hdx]
  obtain ⟨pcs, hk, hf⟩ := fill_parts hρ (fun i => segs[i]?) (C.ti t).zero segs parts.toList _ h (by simpa [segs, isFull] using h1) (fun _ _ => rfl) (by rw [hx.len]; exact h3)
  refine ⟨_, fun w => ?_, hk⟩
  have hzz : z.cells = ⟨(C.ti t).zero⟩ := by apply Array.ext'; rw [← cellsL_eq, hzc]
  refine run_build w t _ _ ?_
  rw [parts_toList]
  simp only [Program.built, hi, hu, hz, hplaces, hzz]
  simpa using hf

theorem build_arr_to {C : Ctx} {t n e : Nat} (hx : TIok C.P t (C.ti t)) (hd : (C.ti t).d = .arr n e) (hxe : TIok C.P e (C.ti e)) {f : Fr} {ρ : Operand → Value} (hρ : ∀ x v, evalO f x = some v → ρ x = v)
    {parts : Array (Nat × Operand)} {k : Value → Prop}
    (h1 : isFull n parts.toList = true) (h2 : Nat.beq (n * (C.ti e).cells) (C.ti t).cells = true)
    (h : partsX f parts.toList (C.ti t).zero (evenSegs (C.ti e).cells n 0) 0 [] fun xs => k (.agg ⟨catAll xs⟩)) :
    Qt C.P (Instr.build t (parts.map fun (i, x) => (i, ρ x))) k := by
  obtain ⟨i, d, z, hi, hu, hdx, hsz, hb, hz, hzc⟩ := hx.get
  obtain ⟨ie, _, _, hie, _, _, hse, _⟩ := hxe.get
  rw [hd] at hdx
  cases d <;> simp [descSum] at hdx
  obtain ⟨en, ee⟩ := hdx
  rw [en, ee] at hu
  have hlen := Nat.eq_of_beq_eq_true h2
  obtain ⟨pcs, hk, hf⟩ := fill_parts hρ (fun i => some (i * ie.size, ie.size)) (C.ti t).zero _ parts.toList _ h (by rw [evenSegs_length]; exact h1)
    (fun idx hidx => by rw [evenSegs_length] at hidx; rw [evenSegs_get _ _ _ _ hidx, hse]; simp)
    (by have := evenSegs_lay (C.ti e).cells n 0
        rw [hx.len, ← hlen]; simpa using this)
  refine ⟨_, fun w => ?_, hk⟩
  have hzz : z.cells = ⟨(C.ti t).zero⟩ := by apply Array.ext'; rw [← cellsL_eq, hzc]
  refine run_build w t _ _ ?_
  rw [parts_toList]
  simp only [Program.built, hi, hu, hz, hie, hzz]
  exact hf

theorem buildSlice_to {C : Ctx} {t n e : Nat} (hd : ∃ d, C.P.underlying t = some d ∧ descSum d = .slice e) (hxe : TIok C.P e (C.ti e)) {f : Fr} {ρ : Operand → Value} (hρ : ∀ x v, evalO f x = some v → ρ x = v)
    {parts : Array (Nat × Operand)} {k : Value → Heap → Prop} {w : World}
    (h1 : isFull n parts.toList = true) (h2 : Nat.ble (n * (C.ti e).cells) 16777216 = true)
    (h : partsX f parts.toList (repCells (C.ti e).zero n) (evenSegs (C.ti e).cells n 0) 0 [] fun xs => k (.slice (some ⟨w.heap.size, 0, none⟩) n n) (newO w.heap (catAll xs) e)) :
    To C.P (Instr.buildSlice t n (parts.map fun (i, x) => (i, ρ x))) w k := by
  obtain ⟨ie, d, z, hie, _, _, hse, _, hz, hzc⟩ := hxe.get
  obtain ⟨dt, hdt, hsl⟩ := hd
  have hu : C.P.underlying t = some (.slice e) := by cases dt <;> simp [descSum] at hsl; subst hsl; exact hdt
  have h24 := Nat.le_of_ble_eq_true h2
  have hzl : z.cells.size = ie.size := by
    have := hxe.len
    rw [← hzc, cellsL_eq] at this
    rw [hse, ← this]; simp
  obtain ⟨pcs, hk, hf⟩ := fill_parts hρ (fun i => some (i * ie.size, ie.size)) (repCells (C.ti e).zero n) _ parts.toList _ h (by rw [evenSegs_length]; exact h1)
    (fun idx hidx => by rw [evenSegs_length] at hidx; rw [evenSegs_get _ _ _ _ hidx, hse]; simp)
    (by have := evenSegs_lay (C.ti e).cells n 0
        rw [length_repCells, hxe.len]; simpa using this)
  refine ⟨.slice (some ⟨w.heap.size, 0, none⟩) n n, w.alloc (.cells ⟨catAll pcs⟩ e), ?_, ⟨rfl, rfl, rfl⟩, hk⟩
  have hzv : (zeroValue e).run C.P w = .ok z w := by simp [zeroValue, run_typeInfo_ok hie, hz]
  have hmade : (Array.range (n * ie.size)).map (fun x => z.cells[x % z.cells.size]!) = ⟨repCells (C.ti e).zero n⟩ := by
    have := madeCells_eq z n
    rw [hzl, hzc] at this
    exact this
  by_cases hn : n * ie.size = 0
  · have hm0 : (Array.range (n * ie.size)).map (fun x => (#[] : Array Value)[x % (#[] : Array Value).size]!) = ⟨repCells (C.ti e).zero n⟩ := by
      have hz0 : repCells (C.ti e).zero n = [] := List.eq_nil_of_length_eq_zero (by rw [length_repCells, hxe.len, ← hse]; exact hn)
      rw [hz0, hn]; apply Array.ext'; simp
    simp only [Instr.buildSlice, Sem.run_bind, run_underlying hu, Result.andThen_ok, run_sizeOf_ok hie, Sem.run_ite, if_pos hn]
    rw [if_neg (by rw [hse]; omega)]
    simp only [Sem.run_pure, Result.andThen_ok, hm0, parts_toList, hf, newRow, Sem.run_bind, run_newObj]
    rfl
  · simp only [Instr.buildSlice, Sem.run_bind, run_underlying hu, Result.andThen_ok, run_sizeOf_ok hie, Sem.run_ite, if_neg hn]
    rw [if_neg (by rw [hse]; omega)]
    simp only [Sem.run_bind, hzv, Sem.run_pure, Result.andThen_ok, hmade, parts_toList, hf, newRow, run_newObj]
    rfl
end Go.Proofs.Ytnbfaokpaiiojaa.Wx
