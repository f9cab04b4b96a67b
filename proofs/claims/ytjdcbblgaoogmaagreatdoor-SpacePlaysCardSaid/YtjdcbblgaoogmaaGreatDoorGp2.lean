/-
  TEXTS FOR spacePlays_card: WxH WxK HpB WxP HpE GlG.
-/
import Derived.Laws.Tables
import Derived.Laws.IdiomStrings
import Derived.Laws.IdiomRangeMap
import Derived.Orders
import Derived.ProofKit
import Derived.SizedLaws
import Derived.ChangeCalls
import Derived.Deep.Strs
import Derived.Test.YtjdcbblgaoogmaaGreatDoorRows
import Derived.JoinedCond
import Derived.OpenShut
import Derived.Deep.DeepHandedRow
import Derived.Lib.LaidTab
import Derived.Test.YtjdcbblgaoogmaaGreatDoorGp1
namespace Go.Proofs.YtjdcbblgaoogmaaGreatDoor.Wx
open Go
theorem insP_mem {q y : Nat × Operand} : ∀ {r : List (Nat × Operand)}, y ∈ insP q r ↔ y = q ∨ y ∈ r
  | [] => by simp [insP]
  | x :: r => by
    rw [insP]
    cases Nat.ble q.1 x.1
    · show y ∈ x :: insP q r ↔ _
      rw [List.mem_cons, insP_mem, List.mem_cons]
      constructor
      · rintro (h | h | h)
        · exact Or.inr (Or.inl h)
        · exact Or.inl h
        · exact Or.inr (Or.inr h)
      · rintro (h | h | h)
        · exact Or.inr (Or.inl h)
        · exact Or.inl h
        · exact Or.inr (Or.inr h)
    · exact List.mem_cons
theorem sortP_mem {y : Nat × Operand} : ∀ {r : List (Nat × Operand)}, y ∈ sortP r ↔ y ∈ r
  | [] => Iff.rfl
  | x :: r => by rw [sortP, insP_mem, sortP_mem, List.mem_cons]
theorem findPart_cons_ne {f : Fr} {i : Nat} {x : Nat × Operand} {r : List (Nat × Operand)} (h : x.1 ≠ i) : findPart f i (x :: r) = findPart f i r := by
  obtain ⟨j, o⟩ := x
  rw [findPart_cons, show Nat.beq j i = false from by cases hb : Nat.beq j i with | false => rfl | true => exact absurd (Nat.eq_of_beq_eq_true hb) h]; rfl
theorem findPart_cons_eq {f : Fr} {i : Nat} {x : Nat × Operand} {r : List (Nat × Operand)} (h : x.1 = i) : findPart f i (x :: r) = some (evalO f x.2) := by
  obtain ⟨j, o⟩ := x
  have h : j = i := h
  subst h
  rw [findPart_cons, show Nat.beq j j = true from Nat.beq_refl j]; rfl
theorem findPart_insP {f : Fr} {i : Nat} {q : Nat × Operand} : ∀ {r : List (Nat × Operand)}, (∀ x ∈ r, x.1 ≠ q.1) → findPart f i (insP q r) = findPart f i (q :: r)
  | [], _ => rfl
  | x :: r, h => by
    rw [insP]
    cases Nat.ble q.1 x.1
    · show findPart f i (x :: insP q r) = _
      have hx := h x (List.mem_cons_self ..)
      have ih := findPart_insP (f := f) (i := i) (q := q) (r := r) fun y hy => h y (List.mem_cons_of_mem _ hy)
      by_cases hi : x.1 = i
      · rw [findPart_cons_eq hi, findPart_cons_ne (x := q) (by rw [← hi]; exact Ne.symm hx), findPart_cons_eq hi]
      · rw [findPart_cons_ne hi, ih]
        by_cases hq : q.1 = i
        · rw [findPart_cons_eq hq, findPart_cons_eq hq]
        · rw [findPart_cons_ne hq, findPart_cons_ne hq, findPart_cons_ne hi]
    · rfl
theorem findPart_congr {f : Fr} {i : Nat} {q : Nat × Operand} {r s : List (Nat × Operand)} (h : findPart f i r = findPart f i s) : findPart f i (q :: r) = findPart f i (q :: s) := by
  by_cases hq : q.1 = i
  · rw [findPart_cons_eq hq, findPart_cons_eq hq]
  · rw [findPart_cons_ne hq, findPart_cons_ne hq, h]
theorem sorted_ge {n : Nat} : ∀ {r : List (Nat × Operand)} {m : Nat}, sorted n r m = true → ∀ x ∈ r, m ≤ x.1 ∧ x.1 < n
  | [], _, _, x, hx => absurd hx (by simp)
  | (j, o) :: r, m, h, x, hx => by
    obtain ⟨h1, h2, h3⟩ := sorted_cons h
    rcases List.mem_cons.mp hx with rfl | hx
    · exact ⟨h1, h2⟩
    · have := sorted_ge h3 x hx; exact ⟨by omega, this.2⟩
/-- a row that is in order once q is put in: q's place is no other's, and the rest is in order -/
theorem sorted_ins {n : Nat} {q : Nat × Operand} : ∀ {r : List (Nat × Operand)} {m : Nat}, sorted n (insP q r) m = true → sorted n r m = true ∧ (∀ x ∈ r, x.1 ≠ q.1) ∧ q.1 < n
  | [], m, h => by
    obtain ⟨_, h2, _⟩ := sorted_cons (x := q.2) (j := q.1) (r := []) h
    exact ⟨rfl, fun x hx => absurd hx (by simp), h2⟩
  | x :: r, m, h => by
    rw [insP] at h
    cases hb : Nat.ble q.1 x.1 with
    | true =>
      rw [hb] at h
      have h : sorted n (q :: x :: r) m = true := h
      obtain ⟨h1, h2, h3⟩ := sorted_cons (x := q.2) (j := q.1) h
      have g := sorted_ge h3
      exact ⟨sorted_weak h3 (by omega), fun y hy => by have := (g y hy).1; omega, h2⟩
    | false =>
      rw [hb] at h
      have h : sorted n (x :: insP q r) m = true := h
      obtain ⟨h1, h2, h3⟩ := sorted_cons (x := x.2) (j := x.1) h
      obtain ⟨a, b, c⟩ := sorted_ins h3
      have hlt : ¬ q.1 ≤ x.1 := fun e => by rw [Nat.ble_eq_true_of_le e] at hb; cases hb
      refine ⟨?_, fun y hy => ?_, c⟩
      · obtain ⟨j, o⟩ := x
        simp only [sorted, Bool.and_eq_true]
        exact ⟨⟨Nat.ble_eq_true_of_le h1, Nat.ble_eq_true_of_le h2⟩, a⟩
      · rcases List.mem_cons.mp hy with rfl | hy
        · omega
        · exact b y hy
theorem findPart_sortP {f : Fr} {n m : Nat} : ∀ {r : List (Nat × Operand)}, sorted n (sortP r) m = true → ∀ i, findPart f i (sortP r) = findPart f i r
  | [], _, _ => rfl
  | q :: r, h, i => by
    rw [sortP] at h ⊢
    obtain ⟨a, b, _⟩ := sorted_ins h
    rw [findPart_insP b]
    exact findPart_congr (findPart_sortP a i)
theorem partsX_congr {f : Fr} {Z : List Value} {p1 p2 : List (Nat × Operand)} (hf : ∀ i, findPart f i p1 = findPart f i p2) {k : List (List Value) → Prop} : ∀ {segs : List (Nat × Nat)} {i : Nat} {acc : List (List Value)}, partsX f p1 Z segs i acc k → partsX f p2 Z segs i acc k
  | [], _, _, h => h
  | (off, size) :: r, i, acc, h => by
    simp only [partsX] at h ⊢
    rw [← hf i]
    cases e : findPart f i p1 with
    | none => rw [e] at h; exact partsX_congr hf h
    | some o =>
      rw [e] at h
      cases o with
      | none => exact h
      | some v =>
        simp only [onSome] at h ⊢
        cases v with
        | agg a => exact ⟨h.1, partsX_congr hf h.2⟩
        | tuple _ => exact h
        | _ =>
          cases hb : Nat.beq size 1
          · rw [hb] at h; exact h
          · rw [hb] at h; exact partsX_congr hf h
theorem seg_get (l c : List Value) (o i : Nat) (h : o + c.length ≤ l.length) : (l.take o ++ c ++ l.drop (o + c.length))[i]? = if o ≤ i ∧ i < o + c.length then c[i - o]? else l[i]? := by
  have lt : (l.take o).length = o := by rw [List.length_take]; omega
  by_cases h1 : i < o
  · rw [if_neg (by omega), List.append_assoc, List.getElem?_append_left (by omega), List.getElem?_take_of_lt h1]
  · by_cases h2 : i < o + c.length
    · rw [if_pos ⟨by omega, h2⟩, List.getElem?_append_left (by rw [List.length_append]; omega), List.getElem?_append_right (by omega), lt]
    · rw [if_neg (by omega), List.getElem?_append_right (by rw [List.length_append]; omega), List.length_append, lt, List.getElem?_drop]
      congr 1; omega
theorem seg_comm (l c1 c2 : List Value) (o1 o2 : Nat) (h1 : o1 + c1.length ≤ l.length) (h2 : o2 + c2.length ≤ l.length) (hd : o1 + c1.length ≤ o2 ∨ o2 + c2.length ≤ o1) :
    (l.take o1 ++ c1 ++ l.drop (o1 + c1.length)).take o2 ++ c2 ++ (l.take o1 ++ c1 ++ l.drop (o1 + c1.length)).drop (o2 + c2.length) = (l.take o2 ++ c2 ++ l.drop (o2 + c2.length)).take o1 ++ c1 ++ (l.take o2 ++ c2 ++ l.drop (o2 + c2.length)).drop (o1 + c1.length) := by
  have k1 : (l.take o1 ++ c1 ++ l.drop (o1 + c1.length)).length = l.length := by simp only [List.length_append, List.length_take, List.length_drop]; omega
  have k2 : (l.take o2 ++ c2 ++ l.drop (o2 + c2.length)).length = l.length := by simp only [List.length_append, List.length_take, List.length_drop]; omega
  apply List.ext_getElem?
  intro i
  rw [seg_get _ c2 o2 i (by omega), seg_get _ c1 o1 i (by omega), seg_get _ c1 o1 i (by omega), seg_get _ c2 o2 i (by omega)]
  by_cases a : o1 ≤ i ∧ i < o1 + c1.length
  · rw [if_pos a, if_pos a, if_neg (by omega)]
  · rw [if_neg a, if_neg a]
theorem layB_ge : ∀ {segs : List (Nat × Nat)} {m n j : Nat} {o s : Nat}, layB segs m n = true → segs[j]? = some (o, s) → m ≤ o
  | [], _, _, _, _, _, _, h => absurd h (by simp)
  | (off, size) :: r, m, n, j, o, s, hl, h => by
    simp only [layB, Bool.and_eq_true] at hl
    have h1 := Nat.eq_of_beq_eq_true hl.1
    cases j with
    | zero => simp only [List.getElem?_cons_zero, Option.some.injEq, Prod.mk.injEq] at h; omega
    | succ j => rw [List.getElem?_cons_succ] at h; have := layB_ge hl.2 h; omega
theorem layB_apart : ∀ {segs : List (Nat × Nat)} {m n i j : Nat} {o1 s1 o2 s2 : Nat}, layB segs m n = true → segs[i]? = some (o1, s1) → segs[j]? = some (o2, s2) → i < j → o1 + s1 ≤ o2
  | [], _, _, _, _, _, _, _, _, _, h, _, _ => absurd h (by simp)
  | (off, size) :: r, m, n, i, j, o1, s1, o2, s2, hl, h1, h2, hij => by
    simp only [layB, Bool.and_eq_true] at hl
    have e := Nat.eq_of_beq_eq_true hl.1
    cases j with
    | zero => omega
    | succ j =>
      rw [List.getElem?_cons_succ] at h2
      cases i with
      | zero =>
        simp only [List.getElem?_cons_zero, Option.some.injEq, Prod.mk.injEq] at h1
        have := layB_ge hl.2 h2
        omega
      | succ i =>
        rw [List.getElem?_cons_succ] at h1
        exact layB_apart hl.2 h1 h2 (by omega)
/-- what the fold asks of a part -/
def PFit (place : Nat → Option (Nat × Nat)) (n : Nat) (q : Nat × Value) : Prop := ∃ off size, place q.1 = some (off, size) ∧ q.2.cells.size = size ∧ off + size ≤ n
theorem fstep_length {place : Nat → Option (Nat × Nat)} {l : List Value} {q : Nat × Value} (h : PFit place l.length q) : (fstep place l q).length = l.length := by
  obtain ⟨o, s, h1, h2, h3⟩ := h
  have e : (cellsL q.2).length = s := by rw [cellsL_eq, Array.length_toList, h2]
  simp only [fstep, h1, List.length_append, List.length_take, List.length_drop, e]; omega
theorem fstep_comm {place : Nat → Option (Nat × Nat)} {l : List Value} {q x : Nat × Value} (hq : PFit place l.length q) (hx : PFit place l.length x) (hne : x.1 ≠ q.1)
    (hd : ∀ i j o1 s1 o2 s2, place i = some (o1, s1) → place j = some (o2, s2) → i < j → o1 + s1 ≤ o2) : fstep place (fstep place l x) q = fstep place (fstep place l q) x := by
  obtain ⟨o1, s1, a1, a2, a3⟩ := hx
  obtain ⟨o2, s2, b1, b2, b3⟩ := hq
  have e1 : (cellsL x.2).length = s1 := by rw [cellsL_eq, Array.length_toList, a2]
  have e2 : (cellsL q.2).length = s2 := by rw [cellsL_eq, Array.length_toList, b2]
  simp only [fstep, a1, b1]
  rw [← e1, ← e2]
  refine seg_comm l _ _ o1 o2 (by omega) (by omega) ?_
  rcases Nat.lt_or_ge x.1 q.1 with h | h
  · left; rw [e1]; exact hd _ _ _ _ _ _ a1 b1 h
  · right; rw [e2]; exact hd _ _ _ _ _ _ b1 a1 (by omega)
theorem fold_ins {place : Nat → Option (Nat × Nat)} {ρ : Operand → Value} {n : Nat} (hd : ∀ i j o1 s1 o2 s2, place i = some (o1, s1) → place j = some (o2, s2) → i < j → o1 + s1 ≤ o2) {q : Nat × Operand} :
    ∀ {r : List (Nat × Operand)} {l : List Value}, l.length = n → PFit place n (q.1, ρ q.2) → (∀ x ∈ r, PFit place n (x.1, ρ x.2) ∧ x.1 ≠ q.1) →
      ((insP q r).map fun q => (q.1, ρ q.2)).foldl (fstep place) l = ((q :: r).map fun q => (q.1, ρ q.2)).foldl (fstep place) l
  | [], _, _, _, _ => rfl
  | x :: r, l, hl, hq, h => by
    rw [insP]
    cases Nat.ble q.1 x.1
    · show ((x :: insP q r).map fun q => (q.1, ρ q.2)).foldl (fstep place) l = _
      obtain ⟨fx, nx⟩ := h x (List.mem_cons_self ..)
      subst hl
      rw [List.map_cons, List.foldl_cons, fold_ins hd (fstep_length fx) hq fun y hy => h y (List.mem_cons_of_mem _ hy)]
      rw [List.map_cons, List.foldl_cons, List.map_cons, List.foldl_cons, List.map_cons, List.foldl_cons]
      rw [fstep_comm hq fx nx hd]
    · rfl
theorem fold_sortP {place : Nat → Option (Nat × Nat)} {ρ : Operand → Value} {n m nn : Nat} (hd : ∀ i j o1 s1 o2 s2, place i = some (o1, s1) → place j = some (o2, s2) → i < j → o1 + s1 ≤ o2) :
    ∀ {r : List (Nat × Operand)} {l : List Value}, l.length = n → sorted nn (sortP r) m = true → (∀ x ∈ r, PFit place n (x.1, ρ x.2)) →
      ((sortP r).map fun q => (q.1, ρ q.2)).foldl (fstep place) l = (r.map fun q => (q.1, ρ q.2)).foldl (fstep place) l
  | [], _, _, _, _ => rfl
  | q :: r, l, hl, hs, h => by
    rw [sortP] at hs ⊢
    obtain ⟨a, b, _⟩ := sorted_ins hs
    have hq := h q (List.mem_cons_self ..)
    rw [fold_ins hd hl hq fun x hx => ⟨h x (List.mem_cons_of_mem _ (sortP_mem.mp hx)), b x hx⟩]
    rw [List.map_cons, List.map_cons, List.foldl_cons, List.foldl_cons]
    subst hl
    exact fold_sortP hd (fstep_length hq) a fun x hx => h x (List.mem_cons_of_mem _ hx)
/-- the composite of parts -/
theorem fill_parts {f : Fr} {ρ : Operand → Value} (hρ : ∀ x v, evalO f x = some v → ρ x = v) (place : Nat → Option (Nat × Nat)) (Z : List Value) (segs : List (Nat × Nat)) (parts : List (Nat × Operand))
    (k : List (List Value) → Prop) (h : partsX f parts Z segs 0 [] k) (hs : sorted segs.length (sortP parts) 0 = true) (hp : ∀ idx, idx < segs.length → place idx = segs[idx]?) (hl : layB segs 0 Z.length = true)
    (hd : ∀ i j o1 s1 o2 s2, place i = some (o1, s1) → place j = some (o2, s2) → i < j → o1 + s1 ≤ o2) :
    ∃ pcs, k pcs ∧ Instr.fill place ⟨Z⟩ (parts.map fun q => (q.1, ρ q.2)) = some ⟨catAll pcs⟩ := by
  have h' := partsX_congr (fun i => (findPart_sortP hs i).symm) h
  obtain ⟨pcs, h1, h2, h3⟩ := parts_fold hρ place Z segs 0 0 (sortP parts) [] k [] h' (by simpa using hs) (by simpa using hp) hl rfl
  have h3' : ∀ q ∈ parts, PFit place Z.length (q.1, ρ q.2) := fun q hq => h3 q (sortP_mem.mpr hq)
  obtain ⟨c', f1, f2, f3⟩ := fill_to place Z (parts.map fun q => (q.1, ρ q.2)) ⟨Z⟩ (by simp) (by
    intro q hq
    obtain ⟨p, hp, rfl⟩ := List.mem_map.1 hq
    exact h3' p hp)
  refine ⟨pcs, by simpa using h1, ?_⟩
  rw [f1]
  congr 1
  apply Array.ext'
  rw [f3]
  simp only [List.nil_append, List.drop_zero] at h2
  rw [fold_sortP hd rfl hs h3'] at h2
  rw [h2, catAll_eq]
theorem apart_segs {segs : List (Nat × Nat)} {m n : Nat} (hl : layB segs m n = true) : ∀ (i j o1 s1 o2 s2 : Nat), segs[i]? = some (o1, s1) → segs[j]? = some (o2, s2) → i < j → o1 + s1 ≤ o2 :=
  fun _ _ _ _ _ _ h1 h2 h => layB_apart hl h1 h2 h
theorem apart_even (size : Nat) : ∀ (i j o1 s1 o2 s2 : Nat), (fun i : Nat => some (i * size, size)) i = some (o1, s1) → (fun i : Nat => some (i * size, size)) j = some (o2, s2) → i < j → o1 + s1 ≤ o2 := by
  intro i j o1 s1 o2 s2 h1 h2 h
  simp only [Option.some.injEq, Prod.mk.injEq] at h1 h2
  obtain ⟨rfl, rfl⟩ := h1
  obtain ⟨rfl, _⟩ := h2
  have := Nat.mul_le_mul_right size (show i + 1 ≤ j from h)
  rw [Nat.add_mul, Nat.one_mul] at this
  exact this
theorem parts_toList (parts : Array (Nat × Operand)) (ρ : Operand → Value) : (parts.map fun (i, x) => (i, ρ x)).toList = parts.toList.map fun q => (q.1, ρ q.2) := by simp
theorem evenSegs_length (size : Nat) : ∀ (n i : Nat), (evenSegs size n i).length = n
  | 0, _ => rfl
  | n + 1, i => by simp [evenSegs, evenSegs_length size n (i + 1)]
theorem evenSegs_get (size : Nat) : ∀ (n i idx : Nat), idx < n → (evenSegs size n i)[idx]? = some ((i + idx) * size, size)
  | 0, _, _, h => by omega
  | n + 1, i, 0, _ => by simp [evenSegs]
  | n + 1, i, idx + 1, h => by
    simp only [evenSegs, List.getElem?_cons_succ]
    rw [evenSegs_get size n (i + 1) idx (by omega)]
    rw [show i + 1 + idx = i + (idx + 1) by omega]
theorem evenSegs_lay (size : Nat) : ∀ (n i : Nat), layB (evenSegs size n i) (i * size) ((i + n) * size) = true
  | 0, i => by simp [evenSegs, layB]
  | n + 1, i => by
    simp only [evenSegs, layB, Bool.and_eq_true]
    refine ⟨by simp, ?_⟩
    have := evenSegs_lay size n (i + 1)
    rw [show i * size + size = (i + 1) * size by rw [Nat.add_mul, Nat.one_mul], show i + (n + 1) = i + 1 + n by omega]
    exact this
theorem build_struct_to {C : Ctx} (hC : CtxOk C) {t : Nat} {fs : List (Nat × Nat)} (hx : TIok C.P t (C.ti t)) (hd : (C.ti t).d = .struct fs) {f : Fr} {ρ : Operand → Value} (hρ : ∀ x v, evalO f x = some v → ρ x = v)
    {parts : Array (Nat × Operand)} {k : Value → Prop}
    (h1 : isFull fs.length parts.toList = true) (h2 : (fs.all fun x => (C.ti x.2).ok) = true) (h3 : layB (fs.map fun x => (x.1, (C.ti x.2).cells)) 0 (C.ti t).cells = true)
    (h : partsX f parts.toList (C.ti t).zero (fs.map fun x => (x.1, (C.ti x.2).cells)) 0 [] fun xs => k (.agg ⟨catAll xs⟩)) :
    Qt C.P (Instr.build t (parts.map fun (i, x) => (i, ρ x))) k := by
  obtain ⟨i, d, z, hi, hu, hdx, hsz, hb, hz, hzc⟩ := hx.get
  rw [hd] at hdx
  cases d <;> simp [descSum] at hdx
  rename_i fields
  let segs := fs.map fun x => (x.1, (C.ti x.2).cells)
  have hplaces : fields.toList.mapM (fun f => (C.P.info? f.type).map fun i => (f.offset, i.size)) = some segs := by
    have key : ∀ l : List Field, (∀ x ∈ l.map (fun f => (f.offset, f.type)), (C.ti x.2).ok = true) →
        l.mapM (fun f => (C.P.info? f.type).map fun i => (f.offset, i.size)) = some ((l.map fun f => (f.offset, f.type)).map fun x => (x.1, (C.ti x.2).cells)) := by
      intro l
      induction l with
      | nil => intro _; rfl
      | cons a l ih =>
        intro hall
        have ha := hC.ok (hall (a.offset, a.type) (by simp))
        obtain ⟨ia, _, _, hia, _, _, hsa, _⟩ := ha.get
        rw [List.mapM_cons, ih (fun x hx => hall x (by simp only [List.map_cons, List.mem_cons]; exact .inr hx))]
        simp only [hia, Option.map_some, List.map_cons, hsa]
        rfl
    rw [key fields.toList (by rw [hdx]; simpa using h2), hdx]
  obtain ⟨pcs, hk, hf⟩ := fill_parts hρ (fun i => segs[i]?) (C.ti t).zero segs parts.toList _ h (by simpa [segs, isFull] using h1) (fun _ _ => rfl) (by rw [hx.len]; exact h3) (apart_segs h3)
  refine ⟨_, fun w => ?_, hk⟩
  have hzz : z.cells = ⟨(C.ti t).zero⟩ := by apply Array.ext'; rw [← cellsL_eq, hzc]
  refine run_build w t _ _ ?_
  rw [parts_toList]
  simp only [Program.built, hi, hu, hz, hplaces, hzz]
  simpa using hf
theorem build_arr_to {C : Ctx} {t n e : Nat} (hx : TIok C.P t (C.ti t)) (hd : (C.ti t).d = .arr n e) (hxe : TIok C.P e (C.ti e)) {f : Fr} {ρ : Operand → Value} (hρ : ∀ x v, evalO f x = some v → ρ x = v)
    {parts : Array (Nat × Operand)} {k : Value → Prop}
    (h1 : isFull n parts.toList = true) (h2 : Nat.beq (n * (C.ti e).cells) (C.ti t).cells = true)
    (h : partsX f parts.toList (C.ti t).zero (evenSegs (C.ti e).cells n 0) 0 [] fun xs => k (.agg ⟨catAll xs⟩)) :
    Qt C.P (Instr.build t (parts.map fun (i, x) => (i, ρ x))) k := by
  obtain ⟨i, d, z, hi, hu, hdx, hsz, hb, hz, hzc⟩ := hx.get
  obtain ⟨ie, _, _, hie, _, _, hse, _⟩ := hxe.get
  rw [hd] at hdx
  cases d <;> simp [descSum] at hdx
  obtain ⟨en, ee⟩ := hdx
  rw [en, ee] at hu
  have hlen := Nat.eq_of_beq_eq_true h2
  obtain ⟨pcs, hk, hf⟩ := fill_parts hρ (fun i => some (i * ie.size, ie.size)) (C.ti t).zero _ parts.toList _ h (by rw [evenSegs_length]; exact h1)
    (fun idx hidx => by rw [evenSegs_length] at hidx; rw [evenSegs_get _ _ _ _ hidx, hse]; simp)
    (by have := evenSegs_lay (C.ti e).cells n 0
        rw [hx.len, ← hlen]; simpa using this)
    (apart_even ie.size)
  refine ⟨_, fun w => ?_, hk⟩
  have hzz : z.cells = ⟨(C.ti t).zero⟩ := by apply Array.ext'; rw [← cellsL_eq, hzc]
  refine run_build w t _ _ ?_
  rw [parts_toList]
  simp only [Program.built, hi, hu, hz, hie, hzz]
  exact hf
theorem buildSlice_to {C : Ctx} {t n e : Nat} (hd : ∃ d, C.P.underlying t = some d ∧ descSum d = .slice e) (hxe : TIok C.P e (C.ti e)) {f : Fr} {ρ : Operand → Value} (hρ : ∀ x v, evalO f x = some v → ρ x = v)
    {parts : Array (Nat × Operand)} {k : Value → Heap → Prop} {w : World}
    (h1 : isFull n parts.toList = true) (h2 : Nat.ble (n * (C.ti e).cells) 16777216 = true)
    (h : partsX f parts.toList (repCells (C.ti e).zero n) (evenSegs (C.ti e).cells n 0) 0 [] fun xs => k (.slice (some ⟨w.heap.size, 0, none⟩) n n) (newO w.heap (catAll xs) e)) :
    To C.P (Instr.buildSlice t n (parts.map fun (i, x) => (i, ρ x))) w k := by
  obtain ⟨ie, d, z, hie, _, _, hse, _, hz, hzc⟩ := hxe.get
  obtain ⟨dt, hdt, hsl⟩ := hd
  have hu : C.P.underlying t = some (.slice e) := by cases dt <;> simp [descSum] at hsl; subst hsl; exact hdt
  have h24 := Nat.le_of_ble_eq_true h2
  have hzl : z.cells.size = ie.size := by
    have := hxe.len
    rw [← hzc, cellsL_eq] at this
    rw [hse, ← this]; simp
  obtain ⟨pcs, hk, hf⟩ := fill_parts hρ (fun i => some (i * ie.size, ie.size)) (repCells (C.ti e).zero n) _ parts.toList _ h (by rw [evenSegs_length]; exact h1)
    (fun idx hidx => by rw [evenSegs_length] at hidx; rw [evenSegs_get _ _ _ _ hidx, hse]; simp)
    (by have := evenSegs_lay (C.ti e).cells n 0
        rw [length_repCells, hxe.len]; simpa using this)
    (apart_even ie.size)
  refine ⟨.slice (some ⟨w.heap.size, 0, none⟩) n n, w.alloc (.cells ⟨catAll pcs⟩ e), ?_, ⟨rfl, rfl, rfl⟩, hk⟩
  have hzv : (zeroValue e).run C.P w = .ok z w := by simp [zeroValue, run_typeInfo_ok hie, hz]
  have hmade : (Array.range (n * ie.size)).map (fun x => z.cells[x % z.cells.size]!) = ⟨repCells (C.ti e).zero n⟩ := by
    have := madeCells_eq z n
    rw [hzl, hzc] at this
    exact this
  by_cases hn : n * ie.size = 0
  · have hm0 : (Array.range (n * ie.size)).map (fun x => (#[] : Array Value)[x % (#[] : Array Value).size]!) = ⟨repCells (C.ti e).zero n⟩ := by
      have hz0 : repCells (C.ti e).zero n = [] := List.eq_nil_of_length_eq_zero (by rw [length_repCells, hxe.len, ← hse]; exact hn)
      rw [hz0, hn]; apply Array.ext'; simp
    simp only [Instr.buildSlice, Sem.run_bind, run_underlying hu, Result.andThen_ok, run_sizeOf_ok hie, Sem.run_ite, if_pos hn]
    rw [if_neg (by rw [hse]; omega)]
    simp only [Sem.run_pure, Result.andThen_ok, hm0, parts_toList, hf, newRow, Sem.run_bind, run_newObj]
    rfl
  · simp only [Instr.buildSlice, Sem.run_bind, run_underlying hu, Result.andThen_ok, run_sizeOf_ok hie, Sem.run_ite, if_neg hn]
    rw [if_neg (by rw [hse]; omega)]
    simp only [Sem.run_bind, hzv, Sem.run_pure, Result.andThen_ok, hmade, parts_toList, hf, newRow, run_newObj]
    rfl
end Go.Proofs.YtjdcbblgaoogmaaGreatDoor.Wx
namespace Go.Proofs.YtjdcbblgaoogmaaGreatDoor.Wx
open Go
def Fit (f : Fr) (ρ : Operand → Value) : Prop := ∀ x v, evalO f x = some v → ρ x = v
theorem onV_elim {f : Fr} {ρ : Operand → Value} (hρ : Fit f ρ) {x : Operand} {k : Value → Prop} (h : onV f x k) : k (ρ x) := by
  cases x with
  | tmp t =>
    simp only [onV] at h
    cases hg : Fr.get f t with
    | none => rw [hg] at h; exact h.elim
    | some v => rw [hg] at h; rw [hρ (.tmp t) v hg]; exact h
  | const v => rw [hρ (.const v) v rfl]; exact h
  | global g => rw [hρ (.global g) _ rfl]; exact h
  | func g => rw [hρ (.func g) _ rfl]; exact h
theorem onInt_elim {v : Value} {k : IntKind → Int → Prop} (h : onInt v k) : ∃ kd n, v = .int kd n ∧ k kd n := by cases v <;> first | exact h.elim | exact ⟨_, _, rfl, h⟩
theorem onBool_elim {v : Value} {k : Bool → Prop} (h : onBool v k) : ∃ b, v = .bool b ∧ k b := by cases v <;> first | exact h.elim | exact ⟨_, rfl, h⟩
theorem onPtr_elim {v : Value} {k : Option Addr → Prop} (h : onPtr v k) : ∃ q, v = .pointer q ∧ k q := by cases v <;> first | exact h.elim | exact ⟨_, rfl, h⟩
theorem onSlice_elim {v : Value} {k : Option Addr → Nat → Nat → Prop} (h : onSlice v k) : ∃ a l c, v = .slice a l c ∧ k a l c := by cases v <;> first | exact h.elim | exact ⟨_, _, _, rfl, h⟩
theorem onAgg_elim {v : Value} {k : List Value → Prop} (h : onAgg v k) : ∃ cs, v = .agg ⟨cs⟩ ∧ k cs := by
  cases v <;> try exact h.elim
  rename_i a; exact ⟨a.toList, by simp, h⟩
theorem onStr_elim {v : Value} {k : ByteArray → Prop} (h : onStr v k) : ∃ s, v = .string s ∧ k s := by cases v <;> first | exact h.elim | exact ⟨_, rfl, h⟩
theorem onTup_elim {v : Value} {k : List Value → Prop} (h : onTup v k) : ∃ vs, v = .tuple ⟨vs⟩ ∧ k vs := by
  cases v <;> try exact h.elim
  rename_i a; exact ⟨a.toList, by simp, h⟩
theorem onMap_elim {v : Value} {k : Option Nat → Prop} (h : onMap v k) : ∃ q, v = .map q ∧ k q := by cases v <;> first | exact h.elim | exact ⟨_, rfl, h⟩
theorem onSome_elim {α : Type} {o : Option α} {k : α → Prop} (h : onSome o k) : ∃ a, o = some a ∧ k a := by cases o <;> first | exact h.elim | exact ⟨_, rfl, h⟩
theorem ptr_elim {f : Fr} {ρ : Operand → Value} (hρ : Fit f ρ) {x : Operand} {k : Addr → Prop} (h : onV f x fun v => onPtr v fun q => onSome q k) : ∃ p, ρ x = .pointer (some p) ∧ k p := by
  obtain ⟨q, hq, h1⟩ := onPtr_elim (onV_elim hρ h)
  obtain ⟨p, hp, h2⟩ := onSome_elim h1
  exact ⟨p, by rw [hq, hp], h2⟩
theorem loX_elim {f : Fr} {ρ : Operand → Value} (hρ : Fit f ρ) {lo : Option Operand} {k : Option Int → Prop} (h : loX f lo k) : ∃ q, lo.map ρ = ivs q ∧ k (ins q) := by
  cases lo with
  | none => exact ⟨none, rfl, h⟩
  | some x =>
    obtain ⟨kd, n, hv, hk⟩ := onInt_elim (onV_elim hρ h)
    exact ⟨some (kd, n), by simp [ivs, hv], hk⟩
theorem evs_elim {f : Fr} {ρ : Operand → Value} (hρ : Fit f ρ) : ∀ {l : List Operand} {acc : List Value} {k : List Value → Prop}, evs f l acc k → k (acc ++ l.map ρ)
  | [], _, _, h => by simpa [evs] using h
  | x :: r, acc, k, h => by
    have := evs_elim hρ (onV_elim hρ (show onV f x _ from h))
    simpa using this
/-- what one operation comes to -/
def OpTo (P : Program) (ρ : Operand → Value) (o : Oper) (w : World) (k : Value → World → Prop) : Prop :=
  (∃ v w', (execOp ρ o).run P w = .ok (.value v) w' ∧ k v w') ∨
  (∃ w', (execOp ρ o).run P w = .ok .skip w' ∧ k undef w') ∨
  (∃ g args, (execOp ρ o).run P w = .ok (.enter g args) w ∧ Calls P g args w fun e w'' => ∃ v, e = .returned v ∧ k v w'') ∨
  (∃ l fn tmps assign body, (execOp ρ o).run P w = .ok (.round l fn tmps assign body) w ∧ RoundIn Fence.wide 0 P l fn tmps assign body w fun e w'' => ∃ v, e = .returned v ∧ k v w'')
def HK (w : World) (k : Value → Heap → Prop) : Value → World → Prop := fun v w' => SameRest w w' ∧ k v w'.heap
theorem OpTo.val {P : Program} {ρ : Operand → Value} {o : Oper} {w : World} {s : Sem Value} {k : Value → Heap → Prop} (he : execOp ρ o = (do Pure.pure (.value (← s)))) (h : To P s w k) : OpTo P ρ o w (HK w k) := by
  obtain ⟨v, w', h1, h2, h3⟩ := h
  exact .inl ⟨v, w', by rw [he, Sem.run_bind, h1]; rfl, h2, h3⟩
theorem exTs_elim : ∀ {tys : List Ty} {acc : List Value} {C K : List Value → Prop}, exTs tys acc C K → ∃ vs, C vs ∧ K vs
  | [], acc, _, _, h => ⟨acc, h⟩
  | .int _ :: _, _, _, _, ⟨_, h⟩ => exTs_elim h
  | .bool :: _, _, _, _, ⟨_, h⟩ => exTs_elim h
  | .str :: _, _, _, _, ⟨_, h⟩ => exTs_elim h
  | .ptr :: _, _, _, _, ⟨_, h⟩ => exTs_elim h
  | .slice :: _, _, _, _, ⟨_, _, _, h⟩ => exTs_elim h
  | .agg :: _, _, _, _, ⟨_, h⟩ => exTs_elim h
  | .any :: _, _, _, _, ⟨_, h⟩ => exTs_elim h
  | .map :: _, _, _, _, ⟨_, h⟩ => exTs_elim h
  | .clo :: _, _, _, _, ⟨_, _, _, h⟩ => exTs_elim h
theorem left_push (es : Array MapEntry) (seen : Array Nat) (b : Nat) : (es.toList.filter fun e => !(seen.push b).contains e.born) = (es.toList.filter fun e => !seen.contains e.born).filter fun e => e.born != b := by
  rw [List.filter_filter]
  congr 1
  funext e
  rw [Array.contains_push, bne]
  cases seen.contains e.born <;> cases e.born == b <;> rfl
theorem map_filt (b : Nat) (key : Int) : ∀ (L : List MapEntry) (left : MapI), L.map (fun e => (e.key, e.val)) = left.map kvI → (∀ x ∈ L, x.born = b ↔ x.key = .int .i64 key) →
    (L.filter fun e => e.born != b).map (fun e => (e.key, e.val)) = (left.filter fun p => p.1 != key).map kvI
  | [], [], _, _ => rfl
  | [], _ :: _, h, _ => by simp at h
  | _ :: _, [], h, _ => by simp at h
  | x :: l, p :: r, h, hx => by
    simp only [List.map_cons, List.cons.injEq] at h
    obtain ⟨h1, h2⟩ := h
    have ih := map_filt b key l r h2 fun y hy => hx y (List.mem_cons_of_mem _ hy)
    have hk : x.key = .int .i64 p.1 := (Prod.mk.inj h1).1
    have iff := hx x (List.mem_cons_self ..)
    by_cases e : p.1 = key
    · have eb : x.born = b := iff.mpr (by rw [hk, e])
      rw [List.filter_cons_of_neg (by simp [eb]), List.filter_cons_of_neg (by simp [e])]; exact ih
    · have eb : x.born ≠ b := fun y => e (by have := iff.mp y; rw [hk] at this; exact (Value.int.inj this).2)
      rw [List.filter_cons_of_pos (by simpa using eb), List.filter_cons_of_pos (by simpa using e), List.map_cons, List.map_cons, ih, h1]
theorem nodup_eq {α β : Type} (f : α → β) : ∀ {l : List α}, (l.map f).Nodup → ∀ {x y : α}, x ∈ l → y ∈ l → f x = f y → x = y
  | [], _, _, _, hx, _, _ => by cases hx
  | a :: r, hn, x, y, hx, hy, e => by
    rw [List.map_cons, List.nodup_cons] at hn
    have no : ∀ z, z ∈ r → f z ≠ f a := fun z hz e => hn.1 (List.mem_map.mpr ⟨z, hz, e⟩)
    rcases List.mem_cons.mp hx with h1 | h1
    · rcases List.mem_cons.mp hy with h2 | h2
      · rw [h1, h2]
      · exact absurd (by rw [← e, h1]) (no y h2)
    · rcases List.mem_cons.mp hy with h2 | h2
      · exact absurd (by rw [e, h2]) (no x h1)
      · exact nodup_eq f hn.2 h1 h2 e
theorem run_next_at {P : Program} (w : World) (ty : TypeId) (b r since last : Nat) (sp : Option Nat) (seen : Array Nat) (es : Array MapEntry) (clock : Nat) (hb : w.heap[b]? = some (.mapIter (some r) since seen last)) (hr : w.heap[r]? = some (.map es clock)) (hold : ∀ x ∈ es.toList, x.born < since) (hsc : since ≤ last) :
    ((leftOf es seen).size = 0 ∧ (Instr.next (.pointer (some ⟨b, 0, sp⟩)) false ty).run P w = .ok (.tuple #[.bool false]) w) ∨
    ∃ e ∈ (leftOf es seen).toList, ∃ w1 : World, w1.heap = w.heap ∧ SameRest w w1 ∧ (Instr.next (.pointer (some ⟨b, 0, sp⟩)) false ty).run P w = .ok (.tuple #[.bool true, e.key, e.val]) { w1 with heap := w.heap.setIfInBounds b (.mapIter (some r) since (seen.push e.born) clock) } := by
  simp only [Instr.next, getObj, Sem.run_bind, Sem.run, hb, hr, Result.andThen, next_test_false seen es since last hold hsc, Bool.false_eq_true, if_false]
  unfold leftOf
  have hmem : ∀ x ∈ (Array.filter (fun e => !seen.contains e.born) es).toList, x.born < since := fun x hx => hold x (by simp at hx ⊢; exact hx.1)
  generalize Array.filter (fun e => !seen.contains e.born) es = L at hmem ⊢
  have e1 : L.filter (fun x => decide (x.born < since)) = L := Array.filter_eq_self.2 (fun x hx => by simpa using hmem x (by simpa using hx))
  have e2 : L.filter (fun x => decide (x.born ≥ since)) = #[] := by
    rw [Array.filter_eq_empty_iff]
    intro x hx
    have := hmem x (by simpa using hx)
    simp
    omega
  simp only [e1, e2, Array.append_empty]
  by_cases h0 : L.size = 0
  · left
    have : L = #[] := Array.eq_empty_of_size_eq_zero h0
    subst this
    refine ⟨rfl, ?_⟩
    simp [choose, Sem.run, Question.forced]
  · right
    have hne : L.isEmpty = false := by simp [Array.isEmpty, h0]
    simp only [hne, Bool.false_eq_true, if_false, Array.empty_append, Array.size_map]
    have hch : ∃ (j : Nat) (w1 : World), j < L.size ∧ w1.heap = w.heap ∧ SameRest w w1 ∧ (choose (Question.mapNext L.size)).run P w = .ok j w1 := by
      by_cases hf : L.size ≤ 1
      · exact ⟨0, w, by omega, rfl, .refl _, by simp [choose, Sem.run, Question.forced, hf]⟩
      · exact ⟨_, w.drew, Nat.mod_lt _ (by omega), rfl, ⟨rfl, rfl, rfl⟩, by
          simp only [choose, Sem.run, Question.forced, decide_eq_true_eq, hf, if_false, Question.cut]
          rfl⟩
    obtain ⟨j, w1, hj, hh, hs, hrun⟩ := hch
    refine ⟨L[j], by simp, w1, hh, hs, ?_⟩
    have hset : ∀ (o' : Obj), (setObj b o').run P w1 = .ok () { w1 with heap := w.heap.setIfInBounds b o' } := fun o' => by
      simp only [setObj, Sem.run, hh, hb]
    simp only [hrun, Array.getElem?_map, Array.getElem?_eq_getElem hj, Option.map_some, Sem.run_bind, hset, Result.andThen]
    rfl
theorem next_map_to {P : Program} {w : World} {ty b r : Nat} {sp : Option Nat} {m left : MapI} {k : Value → Heap → Prop} (H : MItAt w.heap b r m left) (hN : left = [] → k (.tuple #[.bool false]) w.heap)
    (hS : ∀ e ∈ left, ∀ h', ItTo w.heap b r m left e h' → k (.tuple #[.bool true, .int .i64 e.1, .int .i64 e.2]) h') : To P (Instr.next (.pointer (some ⟨b, 0, sp⟩)) false ty) w k := by
  obtain ⟨es, clock, since, seen, last, hr, hb, hm, hst, hold, hsl, hsc, hl⟩ := H
  have eL : (leftOf es seen).toList = es.toList.filter fun e => !seen.contains e.born := by unfold leftOf; rw [Array.toList_filter]
  rcases run_next_at (P := P) w ty b r since last sp seen es clock hb hr hold hsl with ⟨h0, run⟩ | ⟨e, he, w1, hh, hs, run⟩
  · refine ⟨_, w, run, .refl _, hN ?_⟩
    have e0 : (leftOf es seen).toList = [] := List.eq_nil_of_length_eq_zero (by rw [Array.length_toList]; exact h0)
    rw [← eL, e0] at hl
    exact (List.map_eq_nil_iff.mp hl.symm)
  · rw [eL] at he
    have hf : (e.key, e.val) ∈ (es.toList.filter fun e => !seen.contains e.born).map (fun e : MapEntry => (e.key, e.val)) := List.mem_map.mpr ⟨e, he, rfl⟩
    rw [hl] at hf
    obtain ⟨p, hp, ep⟩ := List.mem_map.mp hf
    have ek : e.key = .int .i64 p.1 := (Prod.mk.inj ep).1.symm
    have ev : e.val = .int .i64 p.2 := (Prod.mk.inj ep).2.symm
    have hes : e ∈ es.toList := (List.mem_filter.mp he).1
    obtain ⟨g1, g2⟩ := MapKept.heap_set (o' := .mapIter (some r) since (seen.push e.born) clock) hb
    have hrb : r ≠ b := by intro y; rw [y, hb] at hr; cases hr
    rw [ek, ev] at run
    have hr' := (g2 r hrb).trans hr
    refine ⟨_, _, run, ⟨hs.1, hs.2.1, hs.2.2⟩, hS p hp _ ⟨by simp, g2, ⟨es, clock, since, seen.push e.born, clock, hr', g1, hm, hst, hold, hsc, hsc, ?_⟩, ⟨es, clock, since, seen.push e.born, e, hr', g1, by simp, ?_, ek, ev⟩⟩⟩
    · rw [left_push]
      exact map_filt e.born p.1 _ _ hl fun x hx => by
        have hx' := (List.mem_filter.mp hx).1
        refine ⟨fun y => ?_, fun y => ?_⟩
        · rw [nodup_eq MapEntry.born hst.2.1 hx' hes y, ek]
        · rw [nodup_eq MapEntry.key hst.2.2 hx' hes (by rw [y, ek])]
    · rw [← Array.find?_toList]; exact find_born e es.toList hst.2.1 hes
theorem backX_elim {tys : List Ty} {k : Value → Heap → Prop} {v : Value} {h : Heap} (hb : backX tys k v h) : k v h := by
  match tys, hb with
  | [], ⟨e, hk⟩ => subst e; exact hk
  | [ty], hb => obtain ⟨u, e, hk⟩ := exT_elim (show exT ty (fun u => v = u) (fun u => k u h) from hb); subst e; exact hk
  | _ :: _ :: _, hb => obtain ⟨us, e, hk⟩ := exTs_elim (show exTs _ [] (fun us => v = .tuple ⟨us⟩) (fun us => k (.tuple ⟨us⟩) h) from hb); subst e; exact hk
theorem call_to {P : Program} {ρ : Operand → Value} {o : Oper} {w : World} {g : Nat} {args : List Value} {tys : List Ty} {k : Value → Heap → Prop}
    (he : execOp ρ o = callFunc g ⟨args⟩) (h : HCalls P g args w.heap (backX tys k)) : OpTo P ρ o w (HK w k) := by
  obtain ⟨⟨fn, hf, hn, hb⟩, hc⟩ := h
  refine .inr (.inr (.inl ⟨g, ⟨args⟩, ?_, ?_⟩))
  · rw [he]
    simp only [callFunc, Sem.run_bind, run_program, Result.andThen_ok, hf, hn, hb, Bool.false_eq_true, if_false, Sem.run_pure]
  · exact (hc w rfl).mono fun e w' ⟨v, h1, h2, h3⟩ => ⟨v, h1, h2, backX_elim h3⟩
theorem part_to {P : Program} {t : Nat} {x : TI} (hx : TIok P t x) {cs : Array Value} {off : Nat} {k : Value → Prop}
    (h : match x.d.ty with
      | .agg => k (.agg ⟨(cs.toList.drop off).take x.cells⟩)
      | ty => exT ty (fun u => cs.toList[off]? = some u) k) : Qt P (part t cs off) k := by
  obtain ⟨i, d, z, hi, hd, hdx, hsz, _, _, _⟩ := hx.get
  have hag := fun w => run_isAgg_ok hd w
  unfold part
  rw [← hdx] at h
  have agg : isAggD (descSum d) = true → (descSum d).ty = .agg := by cases descSum d <;> simp [D.ty, isAggD]
  have nagg : isAggD (descSum d) = false → (descSum d).ty ≠ .agg := by cases descSum d <;> simp [D.ty, isAggD]
  cases hq : isAggD (descSum d) with
  | true =>
    rw [agg hq] at h
    refine ⟨_, fun w => ?_, h⟩
    simp only [Sem.run_bind, hag, hq, Result.andThen_ok, if_true, run_sizeOf_ok hi, hsz, Sem.run_pure]
    congr 2
    apply Array.ext'
    simp
  | false =>
    have hne := nagg hq
    have h' : exT (descSum d).ty (fun u => cs.toList[off]? = some u) k := by
      cases ht : (descSum d).ty <;> rw [ht] at h hne <;> first | exact h | exact (hne rfl).elim
    obtain ⟨v, hc, hk⟩ := exT_elim h'
    refine ⟨v, fun w => ?_, hk⟩
    have hc' : cs[off]? = some v := by simpa using hc
    simp only [Sem.run_bind, hag, hq, Result.andThen_ok, Bool.false_eq_true, if_false, hc', Sem.run_pure]
theorem foldl_push (ns : List UInt8) : ∀ r : ByteArray, (ns.map fun b => ((b.toNat : Nat) : Int)).foldl (fun r n => r.push (UInt8.ofNat n.toNat)) r = ⟨r.data ++ ns.toArray⟩ := by
  induction ns with
  | nil => intro r; simp
  | cons b ns ih =>
    intro r
    simp only [List.map_cons, List.foldl_cons]
    rw [ih]
    simp [ByteArray.push]
theorem bytesStr_to {P : Program} {w : World} {a : Option Addr} {l c : Nat} {bs : List UInt8} (h : StrAt w.heap a l bs) : (Conv.bytesToString (.slice a l c)).run P w = .ok (.string (mkStr bs)) w := by
  obtain ⟨hl, hc⟩ := h
  cases a with
  | none =>
    have : bs = [] := by simpa [SlCells] using hc
    subst this
    rfl
  | some p =>
    have hlo := run_loadCells_list (P := P) w p (bs.map bv) (fun j v hv => hc j v hv)
    have hm : (bs.map bv) = (bs.map fun b => ((b.toNat : Nat) : Int)).map (Value.int .u8) := by simp [bv, Function.comp_def]
    rw [hm, List.length_map, List.length_map, hl] at hlo
    rw [run_bytesToString w p l c _ hlo, foldl_push]
    simp [mkStr, ByteArray.empty, ByteArray.emptyWithCapacity]
    rfl
def isStrD : D → Bool
  | .str => true
  | _ => false
theorem convX_to {C : Ctx} (hC : CtxOk C) {s t : Nat} {v : Value} {w : World} {k : Value → Heap → Prop} (h : convX C (C.ti s).d (C.ti t).d v w.heap k) :
    ∃ r, (convert s t v).run C.P w = .ok r w ∧ k r w.heap ∧ (isStrD (C.ti t).d = false → ∀ w' : World, (convert s t v).run C.P w' = .ok r w') := by
  have hs : (C.ti s).d ≠ .other := by intro e; rw [e] at h; exact h.elim
  have ht : (C.ti t).d ≠ .other := by intro e; rw [e] at h; unfold convX at h; split at h <;> first | exact h.elim | simp at *
  obtain ⟨_, ds, _, _, hus, hds, _⟩ := (hC.okD hs).get
  obtain ⟨_, dt, _, _, hut, hdt, _⟩ := (hC.okD ht).get
  rw [← hds, ← hdt] at h
  cases ds <;> cases dt <;> cases v <;> try exact h.elim
  · exact ⟨_, by simp [convert, run_underlying hus, run_underlying hut, Conv.intToInt], h, fun _ w' => by simp [convert, run_underlying hus, run_underlying hut, Conv.intToInt]⟩
  · exact ⟨_, by simp [convert, run_underlying hus, run_underlying hut, Conv.intToString], h, fun _ w' => by simp [convert, run_underlying hus, run_underlying hut, Conv.intToString]⟩
  · exact ⟨_, by simp [convert, run_underlying hus, run_underlying hut], h, fun _ w' => by simp [convert, run_underlying hus, run_underlying hut]⟩
  · rename_i e a l c
    simp only [descSum, convX] at h
    cases hb : isU8 (C.ti e).d with
    | false => rw [hb] at h; exact h.elim
    | true =>
      rw [hb] at h
      obtain ⟨bs, hst, hk⟩ := h
      have he : (C.ti e).d ≠ .other := by intro e'; rw [e'] at hb; simp [isU8] at hb
      obtain ⟨_, de, _, _, hue, hde, _⟩ := (hC.okD he).get
      rw [← hde] at hb
      have hue' : C.P.underlying e = some (.int .u8) := by
        cases de <;> simp [descSum, isU8] at hb
        rename_i kd
        cases kd <;> simp at hb
        exact hue
      exact ⟨_, by rw [run_convert_bytes_string w s t e a l c hus hue' hut]; exact bytesStr_to hst, hk, fun hf => by rw [← hdt] at hf; simp [descSum, isStrD] at hf⟩
theorem minX_to {P : Program} {x y : Value} {k : Value → Prop} (h : minX x y k) (at_ : Array TypeId) (ty : TypeId) : Qt P (Builtin.min_ at_ ty #[x, y]) k := by
  cases x <;> cases y <;> try exact h.elim
  rename_i k1 a k2 b
  simp only [minX] at h
  cases hk : kindEq k1 k2 with
  | false => rw [hk] at h; exact h.elim
  | true => rw [hk] at h; obtain rfl := kindEq_eq hk; exact ⟨_, by simp [Builtin.min_, Builtin.min2], h⟩
theorem maxX_to {P : Program} {x y : Value} {k : Value → Prop} (h : maxX x y k) (at_ : Array TypeId) (ty : TypeId) : Qt P (Builtin.max_ at_ ty #[x, y]) k := by
  cases x <;> cases y <;> try exact h.elim
  rename_i k1 a k2 b
  simp only [maxX] at h
  cases hk : kindEq k1 k2 with
  | false => rw [hk] at h; exact h.elim
  | true => rw [hk] at h; obtain rfl := kindEq_eq hk; exact ⟨_, by simp [Builtin.max_, Builtin.max2], h⟩
theorem lenX_to {P : Program} {t : Nat} {d : TypeDesc} (hd : P.underlying t = some d) {x : Value} {k : Value → Prop} (h : lenX (descSum d) x k) (ty : TypeId) : Qt P (Builtin.len_ #[t] ty #[x]) k := by
  cases d <;> cases x <;> first | exact h.elim | exact ⟨_, by simp [Builtin.len_, run_underlying hd, goInt], h⟩
theorem capX_to {P : Program} {t : Nat} {d : TypeDesc} (hd : P.underlying t = some d) {x : Value} {k : Value → Prop} (h : capX (descSum d) x k) (ty : TypeId) : Qt P (Builtin.cap_ #[t] ty #[x]) k := by
  cases d <;> cases x <;> first | exact h.elim | exact ⟨_, by simp [Builtin.cap_, run_underlying hd, goInt], h⟩
theorem field_run {P : Program} {t i : Nat} {d : TypeDesc} (hd : P.underlying t = some d) {fs : List (Nat × Nat)} (hf : descSum d = .struct fs) {o : Nat × Nat} (ho : fs[i]? = some o) :
    ∃ (fields : Array Field) (fd : Field), d = .struct fields ∧ fields[i]? = some fd ∧ fd.offset = o.1 ∧ fd.type = o.2 := by
  cases d <;> simp [descSum] at hf
  rename_i fields
  subst hf
  simp at ho
  obtain ⟨fd, h1, h2⟩ := ho
  exact ⟨fields, fd, rfl, by simpa using h1, by rw [← h2], by rw [← h2]⟩
theorem fieldOf_elim {C : Ctx} {t i : Nat} {o : Nat × Nat} (h : fieldOf C t i = some o) : ∃ fs, (C.ti t).d = .struct fs ∧ fs[i]? = some o := by
  unfold fieldOf at h
  cases hd : (C.ti t).d <;> rw [hd] at h <;> simp at h
  exact ⟨_, rfl, h⟩
end Go.Proofs.YtjdcbblgaoogmaaGreatDoor.Wx
namespace Go.Proofs.YtjdcbblgaoogmaaGreatDoor.Wx
open Go
theorem slice_desc {C : Ctx} (hC : CtxOk C) {t e : Nat} (h : (C.ti t).d = .slice e) : ∃ d, C.P.underlying t = some d ∧ descSum d = .slice e := by
  obtain ⟨_, d, _, _, hu, hd, _⟩ := (hC.okD (t := t) (by rw [h]; intro e; cases e)).get
  exact ⟨d, hu, hd.trans h⟩
theorem desc_of {C : Ctx} (hC : CtxOk C) {t : Nat} (h : (C.ti t).d ≠ .other) : ∃ d, C.P.underlying t = some d ∧ descSum d = (C.ti t).d := by
  obtain ⟨_, d, _, _, hu, hd, _⟩ := (hC.okD h).get
  exact ⟨d, hu, hd⟩
theorem binX_other {op : BinOp} {x y : Value} {k : Value → Prop} {d : D} (h : binX d op x y k) : (∃ kd a kd' b, x = .int kd a ∧ y = .int kd' b) ∨ (∃ a b, x = .string a ∧ y = .string b) ∨ d ≠ .other := by
  by_cases hd : d = .other
  · subst hd
    cases x <;> cases y <;> first | exact h.elim | exact .inl ⟨_, _, _, _, rfl, rfl⟩ | exact .inr (.inl ⟨_, _, rfl, rfl⟩) | (simp [binX] at h; done) | (rename_i a b; cases b <;> exact h.elim) | (rename_i a _ _ b _ _; cases b <;> exact h.elim)
  · exact .inr (.inr hd)
def isMapD : D → Bool
  | .map _ _ => true
  | _ => false
def isQ (C : Ctx) : Op → Bool
  | .move _ | .assign _ | .pick _ _ _ | .build _ _ | .load _ _ | .nilCheck _ | .binOp _ _ _ _ _ | .unOp _ _ _ | .makeFunc _ _ _ | .slice _ _ _ _ _ | .fieldAddr _ _ _ | .field _ _ _
  | .indexAddr _ _ _ | .index _ _ _ | .extract _ _ | .sliceToArrayPointer _ _ => true
  | .convert _ t _ => !isSliceD (C.ti t).d
  | .call { callee := .builtin .len, argTypes, .. } => !(argTypes.toList.any fun t => isMapD (C.ti t).d)
  | .call { callee := .builtin .cap, .. } | .call { callee := .builtin .min, .. } | .call { callee := .builtin .max, .. } => true
  | _ => false
def isReadOp (C : Ctx) : Op → Bool
  | .load _ _ => true
  | .convert _ t _ => isStrD (C.ti t).d
  | _ => false
/-- quietly: the world stands; and what reads no memory comes to the same in every world -/
def QTo (C : Ctx) (ρ : Operand → Value) (o : Oper) (w : World) (k : Value → Heap → Prop) : Prop :=
  ∃ v, (execOp ρ o).run C.P w = .ok (.value v) w ∧ k v w.heap ∧ (isReadOp C o.op = false → ∀ w' : World, (execOp ρ o).run C.P w' = .ok (.value v) w')
theorem QTo.qt {C : Ctx} {ρ : Operand → Value} {o : Oper} {w : World} {s : Sem Value} {k : Value → Heap → Prop} (he : execOp ρ o = (do Pure.pure (.value (← s)))) (h : Qt C.P s (fun v => k v w.heap)) : QTo C ρ o w k := by
  obtain ⟨v, h1, h2⟩ := h
  exact ⟨v, by rw [he, Sem.run_bind, h1]; rfl, h2, fun _ w' => by rw [he, Sem.run_bind, h1]; rfl⟩
theorem QTo.op {C : Ctx} {ρ : Operand → Value} {o : Oper} {w : World} {k : Value → Heap → Prop} (h : QTo C ρ o w k) : OpTo C.P ρ o w (HK w k) :=
  let ⟨v, h1, h2, _⟩ := h; .inl ⟨v, w, h1, .refl _, h2⟩
theorem stepQ_to {C : Ctx} (hC : CtxOk C) {f : Fr} {ρ : Operand → Value} (hρ : Fit f ρ) (o : Oper) (hq : isQ C o.op = true) {k : Value → Heap → Prop} {w : World} (h : stepX C f o.op o.type k w.heap) :
    QTo C ρ o w k := by
  cases ho : o.op with
  | move x => rw [ho] at h; exact ⟨ρ x, by simp [execOp, ho], onV_elim hρ h, fun _ w' => by simp [execOp, ho]⟩
  | assign x => rw [ho] at h; exact ⟨ρ x, by simp [execOp, ho], onV_elim hρ h, fun _ w' => by simp [execOp, ho]⟩
  | pick c a b =>
    rw [ho] at h
    obtain ⟨t, hc, h⟩ := onBool_elim (onV_elim hρ h)
    have he : execOp ρ o = (do Pure.pure (.value (if ← asBool (ρ c) then ρ a else ρ b))) := by simp only [execOp, ho]
    cases t with
    | true => exact ⟨ρ a, by rw [he, hc]; simp [asBool], onV_elim hρ (show onV f a (fun v => k v w.heap) from h), fun _ w' => by rw [he, hc]; simp [asBool]⟩
    | false => exact ⟨ρ b, by rw [he, hc]; simp [asBool], onV_elim hρ (show onV f b (fun v => k v w.heap) from h), fun _ w' => by rw [he, hc]; simp [asBool]⟩
  | build t parts =>
    rw [ho] at h
    obtain ⟨hx, h⟩ := hC.okX h
    refine .qt (s := Instr.build t (parts.map fun (i, x) => (i, ρ x))) (by simp only [execOp, ho]) ?_
    cases hd : (C.ti t).d with
    | struct fs =>
      rw [hd] at h
      simp only at h
      cases hb : (isFull fs.length parts.toList && (fs.all fun x => (C.ti x.2).ok) && layB (fs.map fun x => (x.1, (C.ti x.2).cells)) 0 (C.ti t).cells) with
      | false => rw [hb] at h; exact h.elim
      | true =>
        rw [hb] at h
        simp only [Bool.and_eq_true] at hb
        exact build_struct_to hC hx hd hρ hb.1.1 hb.1.2 hb.2 h
    | arr n e =>
      rw [hd] at h
      obtain ⟨hxe, h⟩ := hC.okX h
      cases hb : (isFull n parts.toList && Nat.beq (n * (C.ti e).cells) (C.ti t).cells) with
      | false => rw [hb] at h; exact h.elim
      | true =>
        rw [hb] at h
        simp only [Bool.and_eq_true] at hb
        exact build_arr_to hx hd hxe hρ hb.1 hb.2 h
    | _ => rw [hd] at h; exact h.elim
  | load t x =>
    rw [ho] at h
    obtain ⟨p, hq, h⟩ := ptr_elim hρ h
    obtain ⟨hx, h⟩ := hC.okX h
    obtain ⟨v, hr, hk⟩ := loadVar_to hx h
    refine ⟨v, ?_, hk, fun hf => by simp [isReadOp, ho] at hf⟩
    simp only [execOp, ho]
    rw [hq]
    simp only [Instr.loadAt, Instr.sureAddr, Sem.run_bind, Sem.run_pure, Result.andThen_ok, hr]
  | nilCheck x =>
    rw [ho] at h
    have hk := onV_elim hρ h
    cases hv : ρ x with
    | pointer q =>
      rw [hv] at hk
      obtain ⟨p, hp, hk⟩ := onSome_elim hk
      rw [hp] at hv
      exact ⟨_, by simp only [execOp, ho, hv]; rfl, hk, fun _ w' => by simp only [execOp, ho, hv]; rfl⟩
    | func fn fs cs =>
      rw [hv] at hk
      cases fn with
      | func g => exact ⟨_, by simp only [execOp, ho, hv]; rfl, hk, fun _ w' => by simp only [execOp, ho, hv]; rfl⟩
      | _ => exact hk.elim
    | _ => rw [hv] at hk; exact hk.elim
  | binOp op t x y u =>
    rw [ho] at h
    have hk0 := onV_elim hρ (onV_elim hρ h)
    refine .qt (s := do eqGuard op t x y (ρ x) (ρ y); binOp op t (ρ x) (ρ y)) (by simp only [execOp, ho]) ?_
    unfold binA at hk0
    split at hk0
    · rename_i heq
      have hk := hk0
      have hg := fun w => eqGuard_run (P := C.P) (op := op) (t := t) (x := x) (y := y) (w := w) (binX_guard hk)
      have : Qt C.P (binOp op t (ρ x) (ρ y)) (fun r => k r w.heap) := by
        rcases binX_other hk with ⟨kd, a, kd', b, e1, e2⟩ | ⟨a, b, e1, e2⟩ | hne
        · rw [e1, e2] at hk ⊢
          have hk' : bif isShift op then shiftB op kd a b (fun r => k r w.heap) else bif kindEq kd kd' then intB op kd a b (fun r => k r w.heap) else False := by
            unfold binX at hk; split at hk
            · exact hk.elim
            · exact hk
          cases hs : isShift op with
          | true => rw [hs] at hk'; exact shiftB_to hk'
          | false =>
            rw [hs] at hk'
            cases hkk : kindEq kd kd' with
            | false => rw [hkk] at hk'; exact hk'.elim
            | true => rw [hkk] at hk'; obtain rfl := kindEq_eq hkk; exact intB_to hs hk'
        · rw [e1, e2] at hk ⊢
          have hk' : strB op a b (fun r => k r w.heap) := by
            unfold binX at hk; split at hk
            · exact hk.elim
            · exact hk
          exact strB_to hk'
        · obtain ⟨d, hu, hd⟩ := desc_of hC hne
          rw [← hd] at hk
          exact binX_to hu hk
      obtain ⟨v, h1, h2⟩ := this
      exact ⟨v, fun w => by rw [Sem.run_bind, hg]; exact h1 w, h2⟩
    · rename_i heq
      split at hk0
      · rename_i a b e1 e2
        obtain ⟨hp, hk⟩ := hk0
        have hx : TIok C.P t (C.ti t) := by
          rcases hC.ti t with e | e
          · rw [e] at heq; exact absurd rfl heq
          · exact e
        have run := fun w => (agg_equal hx heq hp w).1
        have hge := (agg_equal hx heq hp w).2
        rw [e1, e2]
        have hg : ∀ w, (eqGuard op t x y (.agg a) (.agg b)).run C.P w = .ok () w := fun w => by
          unfold eqGuard
          cases op <;> simp [hge]
        obtain ⟨v, h1, h2⟩ := eq_to (k := fun r => k r w.heap) hk run rfl rfl
        exact ⟨v, fun w => by rw [Sem.run_bind, hg]; exact h1 w, h2⟩
      · exact hk0.elim
  | unOp op t x =>
    rw [ho] at h
    exact .qt (s := Op.unary op (ρ x)) (by simp only [execOp, ho]) (unX_to (onV_elim hρ h))
  | convert s t x =>
    rw [ho] at h
    rw [ho] at hq
    have hns : isSliceD (C.ti t).d = false := by simpa [isQ] using hq
    have h := onV_elim hρ h
    rw [hns] at h
    obtain ⟨r, h1, h2, h3⟩ := convX_to hC (show convX C (C.ti s).d (C.ti t).d (ρ x) w.heap k from h)
    refine ⟨r, by simp only [execOp, ho, Sem.run_bind, h1]; rfl, h2, fun hf w' => ?_⟩
    have := h3 (by simpa [isReadOp, ho] using hf) w'
    simp only [execOp, ho, Sem.run_bind, this]; rfl
  | makeFunc fn fs cs =>
    rw [ho] at h
    cases fn with
    | func g =>
      have h1 := evs_elim hρ h
      have h2 := evs_elim hρ h1
      simp only [List.nil_append] at h2
      cases hfs : fs.toList.map ρ with
      | cons a r =>
        rw [hfs] at h2
        have e1 : fs.map ρ = ⟨a :: r⟩ := by apply Array.ext'; simpa using hfs
        have e2 : cs.map ρ = ⟨cs.toList.map ρ⟩ := by apply Array.ext'; simp
        exact .qt (s := Instr.makeFunc (.func g) (fs.map ρ) (cs.map ρ)) (by simp only [execOp, ho]) (by rw [e1, e2]; exact ⟨_, fun _ => rfl, h2⟩)
      | nil =>
        rw [hfs] at h2
        have e1 : fs.map ρ = #[] := by apply Array.ext'; simpa using hfs
        have e2 : cs.map ρ = ⟨cs.toList.map ρ⟩ := by apply Array.ext'; simp
        exact .qt (s := Instr.makeFunc (.func g) (fs.map ρ) (cs.map ρ)) (by simp only [execOp, ho]) (by rw [e1, e2]; exact ⟨_, fun _ => rfl, h2⟩)
    | _ => exact h.elim
  | slice t x lo hi mx =>
    rw [ho] at h
    have h := onV_elim hρ h
    obtain ⟨q1, e1, h⟩ := loX_elim hρ h
    obtain ⟨q2, e2, h⟩ := loX_elim hρ h
    obtain ⟨q3, e3, h⟩ := loX_elim hρ h
    refine .qt (s := Instr.sliceAt t (ρ x) (lo.map ρ) (hi.map ρ) (mx.map ρ)) (by simp only [execOp, ho]) ?_
    rw [e1, e2, e3]
    have hne : (C.ti t).d ≠ .other := by
      intro e; rw [e] at h
      obtain ⟨_, h⟩ := hC.okX h
      exact h.elim
    obtain ⟨d, hu, hd⟩ := desc_of hC hne
    by_cases hs : (C.ti t).d = .str
    · rw [hs] at h hd
      refine sliceX_to hu (size := 1) ?_ (by rw [hd]; exact h)
      intro e he
      rw [hd] at he
      rcases he with he | ⟨n, he⟩ <;> cases he
    · have h' : okX (C.ti (elemOf C t)) (sliceX (C.ti t).d (C.ti (elemOf C t)).cells (ρ x) (ins q1) (ins q2) (ins q3) fun r => k r w.heap) := by
        cases hq : (C.ti t).d <;> rw [hq] at h <;> first | exact (hs hq).elim | exact h
      obtain ⟨hx, h'⟩ := hC.okX h'
      rw [← hd] at h'
      refine sliceX_to hu ?_ h'
      intro e he
      have hee : elemOf C t = e := by
        unfold elemOf
        rw [← hd]
        rcases he with he | ⟨n, he⟩ <;> rw [he]
      obtain ⟨i, _, _, hi, _, _, hsz, _⟩ := hx.get
      rw [hee] at hi hsz ⊢
      exact ⟨i, hi, hsz⟩
  | fieldAddr t x i =>
    rw [ho] at h
    obtain ⟨p, hq, h⟩ := ptr_elim hρ h
    obtain ⟨fo, hfo, h⟩ := onSome_elim h
    obtain ⟨fs, hd, hfs⟩ := fieldOf_elim hfo
    obtain ⟨d, hu, hdd⟩ := desc_of hC (t := t) (by rw [hd]; intro e; cases e)
    rw [hd] at hdd
    obtain ⟨fields, fd, rfl, h1, h2, h3⟩ := field_run hu hdd hfs
    cases hz : Nat.beq (C.ti fo.2).cells 0 with
    | true => rw [hz] at h; exact h.elim
    | false =>
      rw [hz] at h
      have hne : (C.ti fo.2).cells ≠ 0 := fun e => by rw [e] at hz; simp at hz
      have hx : TIok C.P fo.2 (C.ti fo.2) := by
        rcases hC.ti fo.2 with e | e
        · rw [e] at hne; exact (hne rfl).elim
        · exact e
      obtain ⟨fi, _, _, hfi, _, _, hsz, _⟩ := hx.get
      refine .qt (s := Instr.fieldAt t (ρ x) i) (by simp only [execOp, ho]) ⟨.pointer (some (p.add fo.1)), fun w => ?_, h⟩
      rw [hq]
      simp only [Instr.fieldAt, Sem.run_bind, run_underlying hu, Result.andThen_ok, h1, Instr.sureAddr, Sem.run_pure, fieldPlace, h3, run_sizeOf_ok hfi, Sem.run_ite]
      rw [if_neg (by rw [hsz]; exact hne), h2]
      rfl
  | field t x i =>
    rw [ho] at h
    obtain ⟨cs, hq, h⟩ := onAgg_elim (onV_elim hρ h)
    obtain ⟨fo, hfo, h⟩ := onSome_elim h
    obtain ⟨fs, hd, hfs⟩ := fieldOf_elim hfo
    obtain ⟨d, hu, hdd⟩ := desc_of hC (t := t) (by rw [hd]; intro e; cases e)
    rw [hd] at hdd
    obtain ⟨fields, fd, rfl, h1, h2, h3⟩ := field_run hu hdd hfs
    obtain ⟨hx, h⟩ := hC.okX h
    obtain ⟨v, hr, hk⟩ := part_to (cs := ⟨cs⟩) (off := fo.1) (k := fun r => k r w.heap) hx h
    refine .qt (s := Instr.field t (ρ x) i) (by simp only [execOp, ho]) ⟨v, fun w => ?_, hk⟩
    rw [hq]
    simp only [Instr.field, Sem.run_bind, run_underlying hu, Result.andThen_ok, h1, asAgg, Sem.run_pure, h2, h3, hr]
  | indexAddr t x y =>
    rw [ho] at h
    have h := onV_elim hρ (onV_elim hρ h)
    obtain ⟨kd, i, e2, h⟩ := onInt_elim h
    refine .qt (s := Instr.indexAt t (ρ x) (ρ y)) (by simp only [execOp, ho]) ?_
    rw [e2]
    cases hd : (C.ti t).d with
    | slice e =>
      rw [hd] at h
      cases hv : ρ x with
      | slice a l c =>
        rw [hv] at h
        obtain ⟨hx, ⟨h0, h1⟩, h⟩ := hC.okX h
        obtain ⟨p, hp, h⟩ := onSome_elim h
        obtain ⟨d, hu, hdd⟩ := slice_desc hC hd
        have hu' : C.P.underlying t = some (.slice e) := by cases d <;> simp [descSum] at hdd; subst hdd; exact hu
        obtain ⟨fi, _, _, hfi, _, _, hsz, _⟩ := hx.get
        refine ⟨_, fun w => ?_, h⟩
        rw [hp]
        simp [Instr.indexAt, asIntOf, run_underlying hu', h0, h1, run_sizeOf_ok hfi, hsz, scale_eq]
      | _ => rw [hv] at h; exact h.elim
    | arr n e =>
      rw [hd] at h
      cases hv : ρ x with
      | pointer q =>
        rw [hv] at h
        obtain ⟨hx, h⟩ := hC.okX h
        obtain ⟨p, hp, ⟨h0, h1⟩, h⟩ := onSome_elim h
        obtain ⟨d, hu, hdd⟩ := desc_of hC (t := t) (by rw [hd]; intro e; cases e)
        rw [hd] at hdd
        have hu' : C.P.underlying t = some (.array n e) := by cases d <;> simp [descSum] at hdd; obtain ⟨rfl, rfl⟩ := hdd; exact hu
        obtain ⟨fi, _, _, hfi, _, _, hsz, _⟩ := hx.get
        refine ⟨_, fun w => ?_, h⟩
        rw [hp]
        simp [Instr.indexAt, asIntOf, run_underlying hu', Instr.sureAddr, h0, h1, run_sizeOf_ok hfi, hsz, scale_eq]
      | _ => rw [hv] at h; exact h.elim
    | _ => rw [hd] at h; exact h.elim
  | index t x y =>
    rw [ho] at h
    have h := onV_elim hρ (onV_elim hρ h)
    obtain ⟨kd, i, e2, h⟩ := onInt_elim h
    refine .qt (s := Instr.index t (ρ x) (ρ y)) (by simp only [execOp, ho]) ?_
    rw [e2]
    cases hd : (C.ti t).d with
    | arr n e =>
      rw [hd] at h
      cases hv : ρ x with
      | agg cs =>
        rw [hv] at h
        obtain ⟨hx, ⟨h0, h1⟩, h⟩ := hC.okX h
        obtain ⟨d, hu, hdd⟩ := desc_of hC (t := t) (by rw [hd]; intro e; cases e)
        rw [hd] at hdd
        have hu' : C.P.underlying t = some (.array n e) := by cases d <;> simp [descSum] at hdd; obtain ⟨rfl, rfl⟩ := hdd; exact hu
        obtain ⟨fi, _, _, hfi, _, _, hsz, _⟩ := hx.get
        obtain ⟨v, hr, hk⟩ := part_to (cs := cs) (off := scale i.toNat (C.ti e).cells) (k := fun r => k r w.heap) hx h
        refine ⟨v, fun w => ?_, hk⟩
        rw [scale_eq] at hr
        simp [Instr.index, asIntOf, run_underlying hu', h0, h1, run_sizeOf_ok hfi, hsz, hr]
      | _ => rw [hv] at h; exact h.elim
    | str =>
      rw [hd] at h
      cases hv : ρ x with
      | string s =>
        rw [hv] at h
        obtain ⟨⟨h0, h1⟩, b, hb, h⟩ := h
        obtain ⟨d, hu, hdd⟩ := desc_of hC (t := t) (by rw [hd]; intro e; cases e)
        rw [hd] at hdd
        have hu' : C.P.underlying t = some .string := by cases d <;> simp [descSum] at hdd; exact hu
        have hb' : s[i.toNat]? = some b := by
          rw [ByteArray.toList_eq] at hb
          have hlt : i.toNat < s.data.toList.length := by
            rcases Nat.lt_or_ge i.toNat s.data.toList.length with hh | hh
            · exact hh
            · rw [List.getElem?_eq_none hh] at hb; cases hb
          have hlt' : i.toNat < s.size := by simpa using hlt
          rw [getElem?_pos s i.toNat hlt']
          rw [List.getElem?_eq_getElem hlt] at hb
          show some s.data[i.toNat] = some b
          simpa using hb
        refine ⟨bv b, fun w => ?_, h⟩
        simp [Instr.index, asIntOf, run_underlying hu', h0, hb', bv]
      | _ => rw [hv] at h; exact h.elim
    | _ => rw [hd] at h; exact h.elim
  | extract x i =>
    rw [ho] at h
    obtain ⟨vs, e1, h⟩ := onTup_elim (onV_elim hρ h)
    obtain ⟨v, hv, h⟩ := onSome_elim h
    refine .qt (s := Instr.extract (ρ x) i) (by simp only [execOp, ho]) ⟨v, fun w => ?_, h⟩
    rw [e1]
    have hv' : (⟨vs⟩ : Array Value)[i]? = some v := by simpa using hv
    simp only [Instr.extract, hv', Sem.run_pure]
  | sliceToArrayPointer t x =>
    rw [ho] at h
    obtain ⟨a, l, c, e1, h⟩ := onSlice_elim (onV_elim hρ h)
    cases hd : (C.ti t).d with
    | arr n e =>
      rw [hd] at h
      obtain ⟨h1, h⟩ := h
      obtain ⟨d, hu, hdd⟩ := desc_of hC (t := t) (by rw [hd]; intro e; cases e)
      rw [hd] at hdd
      have hu' : C.P.underlying t = some (.array n e) := by cases d <;> simp [descSum] at hdd; obtain ⟨rfl, rfl⟩ := hdd; exact hu
      refine .qt (s := Instr.arrayAt t (ρ x)) (by simp only [execOp, ho]) ⟨.pointer a, fun w => ?_, h⟩
      rw [e1]
      simp only [Instr.arrayAt, Sem.run_bind, run_underlying hu', Result.andThen_ok]
      rw [if_neg (by omega)]
      rfl
    | _ => rw [hd] at h; exact h.elim
  | call c =>
    obtain ⟨callee, args, argTypes⟩ := c
    have hargs : args.map ρ = ⟨args.toList.map ρ⟩ := by apply Array.ext'; simp
    have hat : argTypes = ⟨argTypes.toList⟩ := by simp
    cases callee with
    | builtin b =>
      have he : ∀ (s : Sem Value), builtin b argTypes o.type (args.map fun | .const _ => true | _ => false) (args.map ρ) = (do Pure.pure (.value (← s))) → execOp ρ o = (do Pure.pure (.value (← s))) := by
        intro s hs
        rw [← hs]
        simp only [execOp, ho, resolve]
        rfl
      cases b with
      | len =>
        rw [ho] at h
        have h := evs_elim hρ (show evs f args.toList [] _ from h)
        simp only [List.nil_append] at h
        split at h
        · rename_i u t e1 e2
          rw [ho] at hq
          have hnm : ∀ a b, (C.ti t).d ≠ .map a b := fun a b e => by simp [isQ, e2, e, isMapD] at hq
          have h : lenX (C.ti t).d u fun r => k r w.heap := by
            split at h
            · rename_i a b e; exact absurd e (hnm a b)
            · exact h
          refine .qt (he (Builtin.len_ argTypes o.type (args.map ρ)) rfl) ?_
          rw [hargs, e1, hat, e2]
          have hne : (C.ti t).d ≠ .other := by intro e; rw [e] at h; cases u <;> exact h.elim
          obtain ⟨d, hu, hdd⟩ := desc_of hC hne
          rw [← hdd] at h
          exact lenX_to hu h _
        · exact h.elim
      | cap =>
        rw [ho] at h
        have h := evs_elim hρ (show evs f args.toList [] _ from h)
        simp only [List.nil_append] at h
        split at h
        · rename_i u t e1 e2
          refine .qt (he (Builtin.cap_ argTypes o.type (args.map ρ)) rfl) ?_
          rw [hargs, e1, hat, e2]
          have hne : (C.ti t).d ≠ .other := by intro e; rw [e] at h; cases u <;> exact h.elim
          obtain ⟨d, hu, hdd⟩ := desc_of hC hne
          rw [← hdd] at h
          exact capX_to hu h _
        · exact h.elim
      | min =>
        rw [ho] at h
        have h := evs_elim hρ (show evs f args.toList [] _ from h)
        simp only [List.nil_append] at h
        split at h
        · rename_i u v e1
          refine .qt (he (Builtin.min_ argTypes o.type (args.map ρ)) rfl) ?_
          rw [hargs, e1]
          exact minX_to h _ _
        · exact h.elim
      | max =>
        rw [ho] at h
        have h := evs_elim hρ (show evs f args.toList [] _ from h)
        simp only [List.nil_append] at h
        split at h
        · rename_i u v e1
          refine .qt (he (Builtin.max_ argTypes o.type (args.map ρ)) rfl) ?_
          rw [hargs, e1]
          exact maxX_to h _ _
        · exact h.elim
      | _ => rw [ho] at hq; exact (by cases hq)
    | value x => rw [ho] at hq; exact (by cases hq)
    | invoke r m => rw [ho] at hq; exact (by cases hq)
  | _ => rw [ho] at hq; exact (by cases hq)
theorem bytesX_to {C : Ctx} (hC : CtxOk C) {s t : Nat} {v : Value} {w : World} {k : Value → Heap → Prop} (h : bytesX C (Nat.beq s t) (C.ti s).d (C.ti t).d v w.heap k) : To C.P (convert s t v) w k := by
  cases hs : (C.ti s).d with
  | str =>
    cases ht : (C.ti t).d with
    | slice e =>
      rw [hs, ht] at h
      simp only [bytesX] at h
      cases hb : isU8 (C.ti e).d with
      | false => rw [hb] at h; exact h.elim
      | true =>
        rw [hb] at h
        cases v with
        | string b =>
          have h : ∀ cap : Nat, b.size ≤ cap → k (.slice (some ⟨w.heap.size, 0, none⟩) b.size cap) (newS w.heap (b.toList.map bv ++ List.replicate (cap - b.size) (bv 0)) e) := h
          obtain ⟨_, ds, _, _, hus, hds, _⟩ := (hC.okD (t := s) (by rw [hs]; intro e; cases e)).get
          obtain ⟨_, dt, _, _, hut, hdt, _⟩ := (hC.okD (t := t) (by rw [ht]; intro e; cases e)).get
          have he : (C.ti e).d ≠ .other := by intro e'; rw [e'] at hb; simp [isU8] at hb
          obtain ⟨_, de, _, _, hue, hde, _⟩ := (hC.okD he).get
          rw [hs] at hds; rw [ht] at hdt; rw [← hde] at hb
          have h1 : C.P.underlying s = some .string := by cases ds <;> simp [descSum] at hds; exact hus
          have h2 : C.P.underlying t = some (.slice e) := by cases dt <;> simp [descSum] at hdt; subst hdt; exact hut
          have h3 : C.P.underlying e = some (.int .u8) := by
            cases de <;> simp [descSum, isU8] at hb
            rename_i kd
            cases kd <;> simp at hb
            exact hue
          refine ⟨_, _, run_bytes_of_string w s t e b h1 h2 h3, ⟨rfl, rfl, rfl⟩, ?_⟩
          have hk := h _ (grownCap_ge w b.size 0 e)
          have ec : bytesRow b (grownCap w b.size 0 e) = ⟨b.toList.map bv ++ List.replicate (grownCap w b.size 0 e - b.size) (bv 0)⟩ := by
            apply Array.ext'
            have eb : b.toList = b.data.toList := by obtain ⟨⟨l⟩⟩ := b; simp
            simp [bytesRow, eb, bv]
          rw [ec]
          exact hk
        | _ => exact h.elim
    | _ => rw [hs, ht] at h; exact h.elim
  | slice e0 =>
    cases ht : (C.ti t).d with
    | slice e =>
      rw [hs, ht] at h
      simp only [bytesX] at h
      cases hb : (Nat.beq s t && isU8 (C.ti e).d) with
      | false => rw [hb] at h; exact h.elim
      | true =>
        rw [hb] at h
        rw [Bool.and_eq_true] at hb
        obtain ⟨hst, hb⟩ := hb
        have hst := Nat.eq_of_beq_eq_true hst
        subst hst
        obtain ⟨a, l, c, rfl, h⟩ := onSlice_elim h
        obtain ⟨p, rfl, h⟩ := onSome_elim h
        obtain ⟨_, dt, _, _, hut, hdt, _⟩ := (hC.okD (t := s) (by rw [ht]; intro e; cases e)).get
        have he : (C.ti e).d ≠ .other := by intro e'; rw [e'] at hb; simp [isU8] at hb
        obtain ⟨_, de, _, _, hue, hde, _⟩ := (hC.okD he).get
        rw [ht] at hdt; rw [← hde] at hb
        have h2 : C.P.underlying s = some (.slice e) := by cases dt <;> simp [descSum] at hdt; subst hdt; exact hut
        have h3 : C.P.underlying e = some (.int .u8) := by
          cases de <;> simp [descSum, isU8] at hb
          rename_i kd
          cases kd <;> simp at hb
          exact hue
        refine ⟨.slice (some p) l c, { w with heap := markH w.heap p.block }, ?_, ⟨rfl, rfl, rfl⟩, h⟩
        have hm : (markStringish p).run C.P w = .ok () { w with heap := markH w.heap p.block } := by
          simp only [markStringish, Sem.run_bind, run_shape, Result.andThen_ok]
          unfold World.shape? markH
          cases hw : w.heap[p.block]? with
          | none => rfl
          | some o =>
            cases o with
            | cells c e z => simp only [run_freeze]; unfold World.freeze; rw [if_neg (by decide)]; rfl
            | _ => rfl
        simp [convert, run_underlying h2, run_underlying h3, hm]
    | _ => rw [hs, ht] at h; exact h.elim
  | _ => rw [hs] at h; cases ht : (C.ti t).d <;> (rw [ht] at h; exact h.elim)
theorem zero_to {P : Program} {t : Nat} {x : TI} (hx : TIok P t x) (w : World) : ∃ z, (zeroValue t).run P w = .ok z w ∧ z = zeroV x := by
  obtain ⟨i, d, z, hi, hd, hdx, _, _, hz, hzc⟩ := hx.get
  refine ⟨z, by simp [zeroValue, run_typeInfo_ok hi, hz], ?_⟩
  have ha := hx.zag
  simp only [hi, Option.bind_some, hz, Option.map_some, Option.some.injEq] at ha
  unfold zeroV
  cases z with
  | agg a =>
    have ha : isAggTy x.d.ty = true := ha.symm
    have : x.zero = a.toList := hzc.symm
    cases hq : x.d.ty <;> rw [hq] at ha <;> first | (cases ha) | skip
    rw [this]
  | _ =>
    have ha : isAggTy x.d.ty = false := ha.symm
    rw [← hzc]
    cases hq : x.d.ty <;> rw [hq] at ha <;> first | rfl | (cases ha)
theorem mapU_to {C : Ctx} (hC : CtxOk C) {f : Fr} {ρ : Operand → Value} (hρ : Fit f ρ) (o : Oper) {t : Nat} {m x y : Operand} {k : Value → Heap → Prop} {w : World}
    (he : execOp ρ o = (do Instr.mapUpdate t (ρ m) (ρ x) (ρ y); Pure.pure .skip))
    (h : onV f m fun u => onV f x fun v => onV f y fun z => (match (C.ti t).d with
      | .map kt _ => keyX (C.ti kt).d v fun key => onMap u fun q => onSome q fun r => MapPut (C.ti kt).d r key z w.heap fun h' => k undef h'
      | _ => False)) : OpTo C.P ρ o w (HK w k) := by
  have h := onV_elim hρ (onV_elim hρ (onV_elim hρ h))
  split at h
  · rename_i kt et hd
    obtain ⟨key, hx, e2, h, hne⟩ := keyX_elim h
    obtain ⟨q, e1, h⟩ := onMap_elim h
    obtain ⟨r, rfl, mm, hA, hk⟩ := onSome_elim h
    obtain ⟨d, hu, hdd⟩ := desc_of hC (t := t) (by rw [hd]; intro e; cases e)
    rw [hd] at hdd
    obtain ⟨dk, huk, hdk⟩ := desc_of hC hne
    have hm : C.P.underlying t = some (.map kt et) := by cases d <;> simp [descSum] at hdd; obtain ⟨rfl, rfl⟩ := hdd; exact hu
    rw [← hdk] at hx e2 hA hk
    obtain ⟨h', hT, hr⟩ := mapUpdate_to (v := ρ y) hm huk hA hx
    refine .inr (.inl ⟨{ w with heap := h' }, ?_, ⟨rfl, rfl, rfl⟩, hk h' hT⟩)
    rw [he, e1, e2, Sem.run_bind, hr]; rfl
  · exact h.elim
theorem stepX_to {C : Ctx} (hC : CtxOk C) {f : Fr} {ρ : Operand → Value} (hρ : Fit f ρ) (o : Oper) {k : Value → Heap → Prop} {w : World} (h : stepX C f o.op o.type k w.heap) :
    OpTo C.P ρ o w (HK w k) := by
  by_cases hq : isQ C o.op = true
  · exact (stepQ_to hC hρ o hq h).op
  cases ho : o.op with
  | alloc e =>
    rw [ho] at h
    obtain ⟨hx, hk⟩ := hC.okX h
    obtain ⟨i, d, z, hi, _, _, _, _, hz, hzc⟩ := hx.get
    have hzv : (zeroValue e).run C.P w = .ok z w := by simp [zeroValue, run_typeInfo_ok hi, hz]
    refine .val (s := Instr.alloc e true (.tuple #[])) (by simp only [execOp, ho]) ⟨pNew w.heap, w.alloc (.cells z.cells e), ?_, ⟨rfl, rfl, rfl⟩, ?_⟩
    · simp only [Instr.alloc, Sem.run_bind, hzv, Result.andThen_ok, newVar, newRow, run_newObj, Sem.run_pure]
      rfl
    · have hzz : z.cells = ⟨(C.ti e).zero⟩ := by apply Array.ext'; rw [← cellsL_eq, hzc]
      rw [hzz]; exact hk
  | box e x =>
    rw [ho] at h
    have hk := onV_elim hρ h
    refine .val (s := Instr.box e (ρ x)) (by simp only [execOp, ho]) ⟨pNew w.heap, w.alloc (.cells (ρ x).cells e), ?_, ⟨rfl, rfl, rfl⟩, ?_⟩
    · simp only [Instr.box, Sem.run_bind, newVar, newRow, run_newObj, Sem.run_pure, Result.andThen_ok]
      rfl
    · have hzz : (ρ x).cells = ⟨cellsL (ρ x)⟩ := by apply Array.ext'; rw [← cellsL_eq]
      show k (pNew w.heap) (w.heap.push (.cells (ρ x).cells e))
      rw [hzz]; exact hk
  | buildSlice t n parts =>
    rw [ho] at h
    refine .val (s := Instr.buildSlice t n (parts.map fun (i, x) => (i, ρ x))) (by simp only [execOp, ho]) ?_
    cases hd : (C.ti t).d with
    | slice e =>
      simp only [stepX, hd] at h
      obtain ⟨hxe, h⟩ := hC.okX h
      cases hb : (isFull n parts.toList && Nat.ble (n * (C.ti e).cells) 16777216) with
      | false => rw [hb] at h; exact h.elim
      | true =>
        rw [hb] at h
        simp only [Bool.and_eq_true] at hb
        exact buildSlice_to (slice_desc hC hd) hxe hρ hb.1 hb.2 h
    | _ => simp only [stepX, hd] at h
  | store t x y =>
    rw [ho] at h
    obtain ⟨p, hq, h⟩ := ptr_elim hρ h
    obtain ⟨hx, h⟩ := hC.okX (onV_elim hρ h)
    obtain ⟨w', hr, hs, hk⟩ := storeVar_to hx h
    refine .inr (.inl ⟨w', ?_, hs, hk⟩)
    simp only [execOp, ho, hq, Instr.storeAt, Instr.sureAddr, Sem.run_bind, Sem.run_pure, Result.andThen_ok, hr]
  | convert s t x =>
    rw [ho] at h
    rw [ho] at hq
    have hns : isSliceD (C.ti t).d = true := by simpa [isQ] using hq
    have h := onV_elim hρ h
    rw [hns] at h
    exact .val (s := convert s t (ρ x)) (by simp only [execOp, ho]) (bytesX_to hC (show bytesX C (Nat.beq s t) (C.ti s).d (C.ti t).d (ρ x) w.heap k from h))
  | makeSlice t x y =>
    rw [ho] at h
    have h := onV_elim hρ (onV_elim hρ h)
    obtain ⟨kl, l, e1, h⟩ := onInt_elim h
    obtain ⟨kc, c, e2, h⟩ := onInt_elim h
    cases hd : (C.ti t).d with
    | slice e =>
      rw [hd] at h
      obtain ⟨hx, h⟩ := hC.okX h
      exact .val (s := Instr.makeSlice t (ρ x) (ρ y)) (by simp only [execOp, ho]) (by rw [e1, e2]; exact makeP_to (slice_desc hC hd) hx h)
    | _ => rw [hd] at h; exact h.elim
  | call c =>
    obtain ⟨callee, args, argTypes⟩ := c
    have hargs : args.map ρ = ⟨args.toList.map ρ⟩ := by apply Array.ext'; simp
    have hat : argTypes = ⟨argTypes.toList⟩ := by simp
    cases callee with
    | builtin b =>
      have he : ∀ (s : Sem Value), builtin b argTypes o.type (args.map fun | .const _ => true | _ => false) (args.map ρ) = (do Pure.pure (.value (← s))) → execOp ρ o = (do Pure.pure (.value (← s))) := by
        intro s hs
        rw [← hs]
        simp only [execOp, ho, resolve]
        rfl
      cases b with
      | append =>
        rw [ho] at h
        have h := evs_elim hρ (show evs f args.toList [] _ from h)
        simp only [List.nil_append] at h
        split at h
        · rename_i u v t t' e1 e2
          refine .val (he (Builtin.append_ argTypes o.type (args.map ρ)) rfl) ?_
          rw [hargs, e1, hat, e2]
          have key : ∀ e, (C.ti t).d = .slice e → ((∃ e', (C.ti t').d = .slice e') ∨ (C.ti t').d = .str) →
              okX (C.ti e) (onSlice u fun a l c => srcX (C.ti e) w.heap v fun n new => AppendP (C.ti e) e a l c n new w.heap fun a' l' c' h' => k (.slice a' l' c') h') →
              To C.P (Builtin.append_ ⟨[t, t']⟩ o.type ⟨[u, v]⟩) w k := by
            intro e hd hd' h
            obtain ⟨hx, h⟩ := hC.okX h
            obtain ⟨a, l, c, rfl, h⟩ := onSlice_elim h
            obtain ⟨n, new, hs, h⟩ := srcX_to (P := C.P) h
            have ht' : (∃ e', C.P.underlying t' = some (.slice e')) ∨ C.P.underlying t' = some .string := by
              rcases hd' with ⟨e', hd'⟩ | hd'
              · obtain ⟨d, hu, hdd⟩ := slice_desc hC hd'
                cases d <;> simp [descSum] at hdd
                exact .inl ⟨_, hu⟩
              · obtain ⟨d, hu, hdd⟩ := desc_of hC (t := t') (by rw [hd']; intro e; cases e)
                rw [hd'] at hdd
                cases d <;> simp [descSum] at hdd
                exact .inr hu
            exact (append_to (slice_desc hC hd) ht' hx hs h).mono fun r h' ⟨a', l', c', e, hk⟩ => by rw [e]; exact hk
          split at h
          · rename_i e e' hd hd'
            exact key e hd (.inl ⟨e', hd'⟩) h
          · rename_i e hd hd'
            exact key e hd (.inr hd') h
          · exact h.elim
        · exact h.elim
      | clear =>
        rw [ho] at h
        have h := evs_elim hρ (show evs f args.toList [] _ from h)
        simp only [List.nil_append] at h
        split at h
        · rename_i u t e1 e2
          refine .val (he (Builtin.clear_ argTypes o.type (args.map ρ)) rfl) ?_
          rw [hargs, e1, hat, e2]
          split at h
          · rename_i e hd
            obtain ⟨hx, h⟩ := hC.okX h
            obtain ⟨a, l, c, hu, h2⟩ := onSlice_elim h
            subst hu
            exact (clear_to (slice_desc hC hd) hx h2).mono fun r h' ⟨e, hk⟩ => by rw [e]; exact hk
          · exact h.elim
        · exact h.elim
      | copy =>
        rw [ho] at h
        have h := evs_elim hρ (show evs f args.toList [] _ from h)
        simp only [List.nil_append] at h
        split at h
        · rename_i u v t t' e1 e2
          refine .val (he (Builtin.copy_ argTypes o.type (args.map ρ)) rfl) ?_
          rw [hargs, e1, hat, e2]
          split at h
          · rename_i e hd
            obtain ⟨hx, h⟩ := hC.okX h
            obtain ⟨a, l, c, hu, h2⟩ := onSlice_elim h
            subst hu
            exact (copy_to (slice_desc hC hd) hx h2).mono fun r h' ⟨m, e, hk⟩ => by rw [e]; exact hk
          · exact h.elim
        · exact h.elim
      | delete =>
        rw [ho] at h
        have h := evs_elim hρ (show evs f args.toList [] _ from h)
        simp only [List.nil_append] at h
        split at h
        · rename_i u v t ts e1 e2
          refine .val (he (Builtin.delete_ argTypes o.type (args.map ρ)) rfl) ?_
          rw [hargs, e1, hat, e2]
          split at h
          · rename_i kt et hd
            obtain ⟨x, hx, rfl, h, hne⟩ := keyX_elim h
            obtain ⟨q, rfl, h⟩ := onMap_elim h
            obtain ⟨d, hu, hdd⟩ := desc_of hC (t := t) (by rw [hd]; intro e; cases e)
            rw [hd] at hdd
            obtain ⟨dk, huk, hdk⟩ := desc_of hC hne
            have hm : C.P.underlying t = some (.map kt et) := by cases d <;> simp [descSum] at hdd; obtain ⟨rfl, rfl⟩ := hdd; exact hu
            rw [← hdk] at h hx ⊢
            cases q with
            | none =>
              refine ⟨.tuple #[], w, ?_, .refl _, h⟩
              show (Builtin.delete_ ⟨t :: ts⟩ o.type #[.map none, keyV (descSum dk) x]).run C.P w = _
              simp [Builtin.delete_, run_underlying hm, MapKept.run_checkKey huk (key_is hx), Result.andThen]
            | some r =>
              obtain ⟨m, hA, hk⟩ := h
              obtain ⟨h', hT, hr⟩ := delete_to (ty := o.type) hm huk hA hx ts
              exact ⟨_, _, hr, ⟨rfl, rfl, rfl⟩, hk h' hT⟩
          · exact h.elim
        · exact h.elim
      | len =>
        rw [ho] at h
        have h := evs_elim hρ (show evs f args.toList [] _ from h)
        simp only [List.nil_append] at h
        split at h
        · rename_i u t e1 e2
          refine .val (he (Builtin.len_ argTypes o.type (args.map ρ)) rfl) ?_
          rw [hargs, e1, hat, e2]
          split at h
          · rename_i kt et hd
            obtain ⟨q, rfl, h⟩ := onMap_elim h
            obtain ⟨hxk, h⟩ := hC.okX h
            obtain ⟨_, dk, _, _, huk, hdk, _⟩ := hxk.get
            obtain ⟨d, hu, hdd⟩ := desc_of hC (t := t) (by rw [hd]; intro e; cases e)
            rw [hd] at hdd
            have hm : C.P.underlying t = some (.map kt et) := by cases d <;> simp [descSum] at hdd; obtain ⟨rfl, rfl⟩ := hdd; exact hu
            rw [← hdk] at h
            cases q with
            | none => exact ⟨_, w, maplen_to (dc := dk) (m := []) hm rfl, .refl _, h⟩
            | some r =>
              obtain ⟨m, hA, hk⟩ := h
              exact ⟨_, w, maplen_to (dc := dk) (m := m) hm hA, .refl _, hk⟩
          · rename_i hnm
            have hne : (C.ti t).d ≠ .other := by intro e; rw [e] at h; cases u <;> exact h.elim
            obtain ⟨d, hu, hdd⟩ := desc_of hC hne
            rw [← hdd] at h
            obtain ⟨v, h1, h2⟩ := lenX_to hu h o.type
            exact ⟨v, w, h1 w, .refl _, h2⟩
        · exact h.elim
      | _ => first | (rw [ho] at hq; exact (hq rfl).elim) | (rw [ho] at h; exact h.elim)
    | value x =>
      cases x with
      | func g =>
        rw [ho] at h
        have h := evs_elim hρ (show evs f args.toList [] _ from h)
        simp only [List.nil_append] at h
        have hg := hρ (.func g) _ rfl
        have hcall : execOp ρ o = callFunc g ⟨args.toList.map ρ⟩ := by
          simp only [execOp, ho, resolve, hg, Deferred.ofValue, hargs]
          show callFunc g _ = _
          congr 1
          apply Array.ext'
          simp
        cases hn : C.nat.any (Nat.beq g) with
        | false => rw [hn] at h; exact call_to (g := g) (args := args.toList.map ρ) hcall h
        | true =>
          rw [hn, cond_true] at h
          obtain ⟨g', hg', hb⟩ := List.any_eq_true.mp hn
          have hb := Nat.eq_of_beq_eq_true hb
          subst hb
          split at h
          · rename_i u v e1
            obtain ⟨s, eu, h2⟩ := onStr_elim h
            obtain ⟨kd, c, ev, hk8, h3⟩ := onInt_elim h2
            subst hk8
            exact .inl ⟨_, w, by rw [hcall, e1, eu, ev]; exact hC.nat g hg' s c w, .refl _, h3⟩
          · exact h.elim
      | tmp s =>
        rw [ho] at h
        have h := evs_elim hρ (show evs f args.toList [] _ from onV_elim hρ (show onV f (.tmp s) _ from h))
        simp only [List.nil_append] at h
        unfold HCallsV at h
        split at h
        · rename_i g fs cs hv
          refine call_to (g := g) (args := fs.toList ++ args.toList.map ρ ++ cs.toList) ?_ h
          simp only [execOp, ho, resolve, hv, Deferred.ofValue, hargs]
          show callFunc g _ = _
          congr 1
          apply Array.ext'
          simp
        · rename_i l fs cs hv
          obtain ⟨fn, tmps, assign, body, hy, hR⟩ := h w rfl
          refine .inr (.inr (.inr ⟨l, fn, tmps, assign, body, ?_, hR.mono fun e w' ⟨u, h1, h2, h3⟩ => ⟨u, h1, h2, backX_elim h3⟩⟩))
          have he : execOp ρ o = Instr.yield l ⟨fs.toList ++ args.toList.map ρ⟩ := by
            simp only [execOp, ho, resolve, hv, Deferred.ofValue, hargs]
            show Instr.yield l _ = _
            congr 1
            apply Array.ext'
            simp
          rw [he]; exact hy
        · exact h.elim
      | _ => rw [ho] at h; exact h.elim
    | invoke r m => rw [ho] at h; exact h.elim
  | makeMap t r =>
    cases r with
    | none =>
      rw [ho] at h
      refine .val (s := Instr.makeMap t none) (by simp only [execOp, ho]; rfl) ⟨.map (some w.heap.size), w.alloc (.map #[] 0), ?_, ⟨rfl, rfl, rfl⟩, h⟩
      simp [Instr.makeMap, Result.andThen]
    | some x => rw [ho] at h; exact h.elim
  | insert t m x y => exact mapU_to (t := t) (m := m) (x := x) (y := y) hC hρ o (by simp only [execOp, ho]) (by rw [ho] at h; exact h)
  | mapUpdate t m x y => exact mapU_to (t := t) (m := m) (x := x) (y := y) hC hρ o (by simp only [execOp, ho]) (by rw [ho] at h; exact h)
  | lookup t m x ok =>
    rw [ho] at h
    have h := onV_elim hρ (onV_elim hρ (show onV f m _ from h))
    refine .val (s := Instr.lookup t (ρ m) (ρ x) ok) (by simp only [execOp, ho]) ?_
    split at h
    · rename_i kt et hd
      obtain ⟨hxe, h⟩ := hC.okX h
      obtain ⟨key, hx, e2, h, hne⟩ := keyX_elim h
      obtain ⟨q, e1, h⟩ := onMap_elim h
      obtain ⟨d, hu, hdd⟩ := desc_of hC (t := t) (by rw [hd]; intro e; cases e)
      rw [hd] at hdd
      obtain ⟨dk, huk, hdk⟩ := desc_of hC hne
      have hm : C.P.underlying t = some (.map kt et) := by cases d <;> simp [descSum] at hdd; obtain ⟨rfl, rfl⟩ := hdd; exact hu
      rw [← hdk] at h hx e2
      obtain ⟨z, hz, ez⟩ := zero_to hxe w
      rw [e1, e2]
      have main : ∀ mm : MapC, (match (generalizing := false) q with | none => mm = [] | some r => MapAt (descSum dk) w.heap r mm) →
          exT (C.ti et).d.ty (fun r => (mget mm key).getD (zeroV (C.ti et)) = r) (fun r => bif ok then k (.tuple #[r, .bool (mget mm key).isSome]) w.heap else k r w.heap) → To C.P (Instr.lookup t (.map q) (keyV (descSum dk) key) ok) w k := by
        intro mm hA hk
        obtain ⟨r, hr, hk⟩ := exT_elim hk
        refine ⟨_, w, lookup_to hm huk hz hA hx, .refl _, ?_⟩
        rw [ez, hr]
        cases ok <;> exact hk
      cases q with
      | none => exact main [] rfl h
      | some r =>
        obtain ⟨mm, hA, hk⟩ := h
        exact main mm hA hk
    · exact h.elim
  | mapEntry t m x =>
    rw [ho] at h
    have h := onV_elim hρ (onV_elim hρ (show onV f m _ from h))
    refine .val (s := Instr.mapEntry t (ρ m) (ρ x)) (by simp only [execOp, ho]) ?_
    split at h
    · rename_i kt et hd
      obtain ⟨hxe, h⟩ := hC.okX h
      have hh : (isI64 (C.ti kt).d && isI64 (C.ti et).d) = true := by
        cases e : isI64 (C.ti kt).d && isI64 (C.ti et).d
        · rw [e] at h; exact h.elim
        · rfl
      rw [hh] at h
      have hkt : (C.ti kt).d = .int .i64 := by
        have := (Bool.and_eq_true _ _ ▸ hh : isI64 (C.ti kt).d = true ∧ isI64 (C.ti et).d = true).1
        unfold isI64 at this
        split at this
        · assumption
        · cases this
      have h : zeroV (C.ti et) = .int .i64 0 ∧ keyX (C.ti kt).d (ρ x) _ := h
      obtain ⟨hz0, h⟩ := h
      rw [hkt] at h
      obtain ⟨key, hx, e2, h, _⟩ := keyX_elim h
      obtain ⟨q, e1, h⟩ := onMap_elim h
      obtain ⟨r, rfl, mm, hA, hk⟩ := onSome_elim h
      obtain ⟨d, hu, hdd⟩ := desc_of hC (t := t) (by rw [hd]; intro e; cases e)
      rw [hd] at hdd
      obtain ⟨dk, huk, hdk⟩ := desc_of hC (t := kt) (by rw [hkt]; intro e; cases e)
      have hm : C.P.underlying t = some (.map kt et) := by cases d <;> simp [descSum] at hdd; obtain ⟨rfl, rfl⟩ := hdd; exact hu
      have hki : C.P.underlying kt = some (.int .i64) := by
        rw [hkt] at hdk
        cases dk <;> simp [descSum] at hdk
        subst hdk; exact huk
      obtain ⟨z, hz, ez⟩ := zero_to hxe w
      rw [hz0] at ez
      subst ez
      obtain ⟨z, s, h', hE, hr⟩ := mapEntry_to hm hki hz hA hx
      rw [e1, e2]
      exact ⟨_, _, hr, ⟨rfl, rfl, rfl⟩, hk z s h' hE⟩
    · exact h.elim
  | entryStore t m s x =>
    rw [ho] at h
    have h := onV_elim hρ (onV_elim hρ (onV_elim hρ (show onV f m _ from h)))
    split at h
    · rename_i kt et hd
      have hh : (isI64 (C.ti kt).d && isI64 (C.ti et).d) = true := by
        cases e : isI64 (C.ti kt).d && isI64 (C.ti et).d
        · rw [e] at h; exact h.elim
        · rfl
      rw [hh] at h
      obtain ⟨q, e1, h⟩ := onMap_elim (show onMap (ρ m) _ from h)
      obtain ⟨r, rfl, h⟩ := onSome_elim h
      obtain ⟨kd1, sn, e2, h⟩ := onInt_elim h
      obtain ⟨kd, z, e3, rfl, mm, key, hA, hS, hk⟩ := onInt_elim h
      have hx : keyFit (.int .i64) key = true := by
        obtain ⟨es, clock, e, hb, hmem, _, hkey⟩ := hS
        obtain ⟨es2, ck2, hb2, he, _, _⟩ := hA
        rw [hb] at hb2
        cases hb2
        cases key with
        | i n => rfl
        | s b =>
          exfalso
          have : (e.key, e.val) ∈ es.toList.map (fun e => (e.key, e.val)) := List.mem_map.mpr ⟨e, hmem, rfl⟩
          rw [he] at this
          obtain ⟨p, hp, e1⟩ := List.mem_map.mp this
          obtain ⟨q, _, rfl⟩ := List.mem_map.mp hp
          have e1 : keyV (.int .i64) (.i q.1) = e.key := congrArg Prod.fst e1
          rw [hkey] at e1
          cases e1
      obtain ⟨h', hT, hr⟩ := entryStore_to (t := t) (P := C.P) (z := z) hA hS hx
      refine .inr (.inl ⟨{ w with heap := h' }, ?_, ⟨rfl, rfl, rfl⟩, hk h' hT⟩)
      have hr' : (Instr.entryStore t (ρ m) (ρ s) (ρ x)).run C.P w = .ok () { w with heap := h' } := by
        rw [e1, e2, e3]
        simp only [Instr.entryStore, asInt, asIntOf] at hr ⊢
        exact hr
      simp only [execOp, ho]
      rw [Sem.run_bind, hr']; rfl
    · exact h.elim
  | range t x =>
    rw [ho] at h
    have h := onV_elim hρ (show onV f x _ from h)
    refine .val (s := Instr.range t (ρ x)) (by simp only [execOp, ho]) ?_
    split at h
    · rename_i hd
      obtain ⟨s, e1, h⟩ := onStr_elim h
      obtain ⟨d, hu, hdd⟩ := desc_of hC (t := t) (by rw [hd]; intro e; cases e)
      rw [hd] at hdd
      have hm : C.P.underlying t = some .string := by cases d <;> simp [descSum] at hdd; exact hu
      rw [e1]
      refine ⟨pNew w.heap, w.alloc (.stringIter s 0), ?_, ⟨rfl, rfl, rfl⟩, h⟩
      simp [Instr.range, run_underlying hm, Result.andThen]
      rfl
    · rename_i kt et hd
      have hh : (isI64 (C.ti kt).d && isI64 (C.ti et).d) = true := by
        cases e : isI64 (C.ti kt).d && isI64 (C.ti et).d
        · rw [e] at h; exact h.elim
        · rfl
      rw [hh] at h
      obtain ⟨q, e1, h⟩ := onMap_elim (show onMap (ρ x) _ from h)
      obtain ⟨r, rfl, m, ⟨es, clock, hr, hm, _, hst⟩, hk⟩ := onSome_elim h
      obtain ⟨d, hu, hdd⟩ := desc_of hC (t := t) (by rw [hd]; intro e; cases e)
      rw [hd] at hdd
      obtain ⟨k', e', hm'⟩ : ∃ k' e', C.P.underlying t = some (.map k' e') := by cases d <;> simp [descSum] at hdd; exact ⟨_, _, hu⟩
      rw [e1]
      have hlt : r < w.heap.size := by
        rcases Nat.lt_or_ge r w.heap.size with y | y
        · exact y
        · rw [Array.getElem?_eq_none y] at hr; cases hr
      refine ⟨pNew w.heap, w.alloc (.mapIter (some r) clock #[] clock), run_range_map w t k' e' r es clock hm' hr, ⟨rfl, rfl, rfl⟩, hk _ ⟨by simp, fun b hb => heap_alloc_old w _ hb, ⟨es, clock, clock, #[], clock, (heap_alloc_old w _ hlt).trans hr, heap_alloc_new w _, ?_, hst, hst.1, Nat.le_refl _, Nat.le_refl _, ?_⟩⟩⟩
      · rw [hm, mI, List.map_map]; rfl
      · have : (es.toList.filter fun e => !(#[] : Array Nat).contains e.born) = es.toList := List.filter_eq_self.mpr fun x _ => by simp
        rw [this, hm, mI, List.map_map]; rfl
    · exact h.elim
  | next x str =>
    cases str with
    | false =>
      rw [ho] at h
      obtain ⟨p, e1, h⟩ := ptr_elim hρ (show onV f x _ from h)
      obtain ⟨h0, r, m, left, H, hN, hS⟩ := h
      obtain ⟨b, off, sp⟩ := p
      have h0 : off = 0 := h0
      subst h0
      refine .val (s := Instr.next (ρ x) false o.type) (by simp only [execOp, ho]) ?_
      rw [e1]
      exact next_map_to H hN hS
    | true =>
      rw [ho] at h
      obtain ⟨p, e1, h⟩ := ptr_elim hρ (show onV f x _ from h)
      obtain ⟨h0, s, pos, hs, h1, h2⟩ := h
      refine .val (s := Instr.next (ρ x) true o.type) (by simp only [execOp, ho]) ?_
      obtain ⟨b, off, sp⟩ := p
      have h0 : off = 0 := h0
      subst h0
      have hs : w.heap[b]? = some (.stringIter s pos) := hs
      have hg : (getObj b).run C.P w = .ok (.stringIter s pos) w := by simp [getObj, Sem.run, hs]
      rw [e1]
      by_cases hlt : pos < s.size
      · have hset : ∀ o', (setObj b o').run C.P w = .ok () { w with heap := w.heap.setIfInBounds b o' } := fun o' => by simp [setObj, Sem.run, hs]
        refine ⟨_, { w with heap := w.heap.setIfInBounds b (.stringIter s (pos + (Utf8.decode s pos).2)) }, ?_, ⟨rfl, rfl, rfl⟩, h1 hlt _ ⟨by simp, fun b' hb' => (MapKept.heap_set hs).2 b' hb', (MapKept.heap_set hs).1⟩⟩
        simp [Instr.next, hg, hlt, hset, goInt, Result.andThen]
      · refine ⟨_, w, ?_, .refl _, h2 hlt⟩
        simp [Instr.next, hg, hlt, Result.andThen]
  | entry x =>
    rw [ho] at h
    obtain ⟨p, e1, h⟩ := ptr_elim hρ (show onV f x _ from h)
    obtain ⟨h0, r, n, v, ⟨es, clock, since, seen, e, hr, hb, hk, hf, ek, ev⟩, hh⟩ := h
    obtain ⟨b, off, sp⟩ := p
    have h0 : off = 0 := h0
    subst h0
    have hr : w.heap[r]? = some (.map es clock) := hr
    have hb : w.heap[b]? = some (.mapIter (some r) since seen clock) := hb
    refine .val (s := Instr.entry (ρ x)) (by simp only [execOp, ho]) ?_
    rw [e1]
    refine ⟨.tuple #[.int .i64 n, .int .i64 v], w, ?_, .refl _, hh⟩
    simp only [Instr.entry, getObj, Sem.run_bind, Sem.run, hb, hr, hk, Result.andThen, bne_self_eq_false, Bool.false_eq_true, if_false, hf, ek, ev]
    rfl
  | _ => first | (rw [ho] at hq; exact (hq rfl).elim) | (rw [ho] at h; exact h.elim)
end Go.Proofs.YtjdcbblgaoogmaaGreatDoor.Wx
namespace Go.Proofs.YtjdcbblgaoogmaaGreatDoor.Wx
open Go
/-- a deferred call, or the mark of a loop over a function -/
def toD : Value → Deferred
  | .pointer (some a) => { target := .collected a.block, args := #[] }
  | .tuple ⟨.func g fs cs :: us⟩ => { target := .fn g cs, args := fs ++ ⟨us⟩ }
  | _ => default
theorem Fr.get_key (f : Fr) : Fr.get f dKey = none := by
  unfold Fr.get; rw [Nat.beq_refl]; rfl
theorem Fr.get_ne {f : Fr} {t : Nat} (h : t ≠ dKey) : Fr.get f t = getL f t := by
  unfold Fr.get
  cases hb : Nat.beq t dKey with
  | true => exact absurd (Nat.eq_of_beq_eq_true hb) h
  | false => rfl
theorem getL_cons (f : Fr) (d t : Nat) (v : Value) : getL ((d, v) :: f) t = if d = t then some v else getL f t := by
  show (bif Nat.beq d t then some v else getL f t) = _
  cases h : Nat.beq d t with
  | true => rw [if_pos (Nat.eq_of_beq_eq_true h)]; rfl
  | false =>
    have : d ≠ t := fun e => by subst e; rw [Nat.beq_refl] at h; cases h
    rw [if_neg this]; rfl
theorem Fr.get_cons (f : Fr) (d t : Nat) (v : Value) (hd : d ≠ dKey) : Fr.get ((d, v) :: f) t = if d = t then some v else Fr.get f t := by
  by_cases ht : t = dKey
  · subst ht; rw [Fr.get_key, Fr.get_key, if_neg hd]
  · rw [Fr.get_ne ht, Fr.get_ne ht, getL_cons]
theorem Fr.get_dcons (f : Fr) (t : Nat) (v : Value) : Fr.get ((dKey, v) :: f) t = Fr.get f t := by
  by_cases ht : t = dKey
  · subst ht; rw [Fr.get_key, Fr.get_key]
  · rw [Fr.get_ne ht, Fr.get_ne ht, getL_cons, if_neg fun e => ht e.symm]
theorem Fr.some_ne {f : Fr} {t : Nat} {v : Value} (h : Fr.get f t = some v) : t ≠ dKey := fun e => by subst e; rw [Fr.get_key] at h; cases h
theorem dfs_cons (f : Fr) (d : Nat) (v : Value) (hd : d ≠ dKey) : dfs ((d, v) :: f) = dfs f := by
  show (bif Nat.beq d dKey then v :: dfs f else dfs f) = _
  cases h : Nat.beq d dKey with
  | true => exact absurd (Nat.eq_of_beq_eq_true h) hd
  | false => rfl
theorem dfs_dcons (f : Fr) (v : Value) : dfs ((dKey, v) :: f) = v :: dfs f := by
  show (bif Nat.beq dKey dKey then v :: dfs f else dfs f) = _
  rw [Nat.beq_refl]; rfl
theorem Fr.get_addDs (f : Fr) (t : Nat) : ∀ ds : List Value, Fr.get (addDs ds f) t = Fr.get f t
  | [] => rfl
  | v :: r => by rw [addDs, Fr.get_dcons, Fr.get_addDs f t r]
theorem dfs_addDs (f : Fr) : ∀ ds : List Value, dfs (addDs ds f) = ds ++ dfs f
  | [] => rfl
  | v :: r => by rw [addDs, dfs_dcons, dfs_addDs f r]; rfl
theorem noD_get (t : Nat) : ∀ f : Fr, Fr.get (noD f) t = Fr.get f t
  | [] => rfl
  | (d, v) :: r => by
    show Fr.get (bif Nat.beq d dKey then noD r else (d, v) :: noD r) t = _
    cases h : Nat.beq d dKey with
    | true =>
      have := Nat.eq_of_beq_eq_true h
      subst this
      rw [Fr.get_dcons]; exact noD_get t r
    | false =>
      have hd : d ≠ dKey := fun e => by subst e; rw [Nat.beq_refl] at h; cases h
      show Fr.get ((d, v) :: noD r) t = _
      rw [Fr.get_cons _ _ _ _ hd, Fr.get_cons _ _ _ _ hd, noD_get t r]
theorem noD_dfs : ∀ f : Fr, dfs (noD f) = []
  | [] => rfl
  | (d, v) :: r => by
    show dfs (bif Nat.beq d dKey then noD r else (d, v) :: noD r) = _
    cases h : Nat.beq d dKey with
    | true => exact noD_dfs r
    | false =>
      have hd : d ≠ dKey := fun e => by subst e; rw [Nat.beq_refl] at h; cases h
      show dfs ((d, v) :: noD r) = _
      rw [dfs_cons _ _ _ hd, noD_dfs r]
/-- the activation, as far as it is known -/
structure Agr (n : Nat) (a : Act) (f : Fr) : Prop where
  lim : n ≤ dKey
  size : a.tmps.size = n
  defers : a.defers = (dfs f).map toD
  val : ∀ t v, Fr.get f t = some v → a.tmps.getD t undef = v
theorem Agr.fit {n : Nat} {a : Act} {f : Fr} (h : Agr n a f) : Fit f a.eval := by
  intro x v hx
  cases x with
  | tmp t => exact h.val t v hx
  | const u => exact Option.some.inj hx
  | global g => exact Option.some.inj hx
  | func g => exact Option.some.inj hx
def dstOk (n : Nat) (o : Oper) : Bool :=
  match o.dst with
  | some d => Nat.blt d n
  | none => true
theorem Agr.put {n : Nat} {a : Act} {f : Fr} (h : Agr n a f) {o : Oper} (hd : dstOk n o = true) (v : Value) : Agr n (a.put o.dst v) (putD f o.dst v) := by
  unfold dstOk at hd
  cases hdst : o.dst with
  | none => exact h
  | some d =>
    rw [hdst] at hd
    have hlt : d < n := Nat.le_of_ble_eq_true hd
    have hne : d ≠ dKey := Nat.ne_of_lt (Nat.lt_of_lt_of_le hlt h.lim)
    refine ⟨h.lim, by simp [Act.put, h.size], by rw [show putD f (some d) v = (d, v) :: f from rfl, dfs_cons _ _ _ hne]; exact h.defers, fun t u hu => ?_⟩
    rw [show putD f (some d) v = (d, v) :: f from rfl, Fr.get_cons _ _ _ _ hne] at hu
    by_cases e : d = t
    · subst e
      rw [if_pos rfl] at hu
      have := Option.some.inj hu
      subst this
      simp [Act.put, h.size, hlt]
    · rw [if_neg e] at hu
      have := h.val t u hu
      simpa [Act.put, Array.getElem?_setIfInBounds_ne e] using this
/-- the fence that lets all in: of a function's activation, or of a round's -/
def FW (ro : Option Nat) : Fence := { Fence.wide with round := ro }
theorem callsIn_FW {ro : Option Nat} {m : Nat} {P : Program} {f : FuncId} {args : Array Value} {w : World} {R : Ending → World → Prop} (h : Calls P f args w R) : CallsIn (FW ro) m P f args w R :=
  (callsIn_wide (n := m)).2 h
theorem roundIn_FW {ro : Option Nat} {m : Nat} {P : Program} {l : Nat} {f : FuncId} {tmps : Array Value} {assign body : Code} {w : World} {R : Ending → World → Prop} (h : RoundIn Fence.wide 0 P l f tmps assign body w R) : RoundIn (FW ro) m P l f tmps assign body w R :=
  ⟨trivial, fun c cs _ => h.2 c cs (room_wide _)⟩
theorem semAt_plain {ro : Option Nat} {ρ : Operand → Value} {o : Oper} (h : ro = none ∨ isDefer o.op = false) : Oper.semAt ro ρ o = execOp ρ o := by
  cases ro with
  | none => exact Oper.semAt_none ρ o
  | some l =>
    refine Oper.semAt_some l ρ o fun c e => ?_
    rcases h with h | h
    · cases h
    · rw [e] at h; cases h
theorem wpIn_of_OpTo {ro : Option Nat} {m : Nat} {P : Program} {a : Act} {o : Oper} {w : World} {k : Value → World → Prop} {next : Act → World → Prop} {Q : Exit → Act → World → Prop} (hd : ro = none ∨ isDefer o.op = false)
    (h : OpTo P a.eval o w k) (hk : ∀ v w', k v w' → next (a.put o.dst v) w') : o.wpIn (FW ro) m P a w next Q := by
  refine ⟨fun _ _ => trivial, ?_⟩
  show o.uponIn (FW ro) m P a next Q ((o.semAt ro a.eval).run P w)
  rw [semAt_plain hd]
  rcases h with ⟨v, w', hr, hv⟩ | ⟨w', hr, hv⟩ | ⟨g, args, hr, hc⟩ | ⟨l, fn, tmps, assign, body, hr, hc⟩
  · rw [hr]; exact hk _ _ hv
  · rw [hr]; exact hk _ _ hv
  · rw [hr, Oper.uponIn_enter]
    exact ⟨(fun x => by cases x), callsIn_FW (hc.mono fun e w'' ⟨v, he, hv⟩ => by subst he; exact hk _ _ hv)⟩
  · rw [hr, Oper.uponIn_round]
    exact ⟨(fun x => by cases x), roundIn_FW (hc.mono fun e w'' ⟨v, he, hv⟩ => by subst he; exact hk _ _ hv)⟩
/-- a call is deferred -/
theorem deferX_to {f : Fr} {P : Program} {ρ : Operand → Value} (hρ : Fit f ρ) {o : Oper} {w : World} {k : Value → Prop} (hd : isDefer o.op = true) (h : deferX f (callOf o.op) k) :
    ∃ d, (execOp ρ o).run P w = .ok (.defer (toD d)) w ∧ k d := by
  cases ho : o.op with
  | defer c =>
    rw [ho] at h
    have h : deferX f c k := h
    obtain ⟨callee, args, tys⟩ := c
    cases callee with
    | value x =>
      have h := onV_elim hρ (show onV f x _ from h)
      split at h
      · rename_i g fs cs hv
        have h := evs_elim hρ h
        simp only [List.nil_append] at h
        refine ⟨_, ?_, h⟩
        simp only [execOp, ho, resolve, hv, Deferred.ofValue, Sem.run_bind, Sem.run_pure, Result.andThen_ok, toD]
        congr 3
        apply Array.ext'
        simp
      · exact h.elim
    | builtin b => exact h.elim
    | invoke r m => exact h.elim
  | _ => rw [ho] at hd; cases hd
theorem splitX_elim {b : Bool} {v : Value} {k : Value → Prop} (h : splitX b v k) : k v := by
  unfold splitX at h
  cases b with
  | false => exact h
  | true =>
    cases v with
    | bool t => cases t <;> exact h
    | _ => exact h
theorem wantX_elim {n : Nat} {a : Act} {f : Fr} (hA : Agr n a f) {full : List Oper} {o : Oper} {k : Bool → Prop} (h : wantX full f o.guard k) : k (Region.wanted o (yielded full.toArray a.tmps)) := by
  unfold Region.wanted
  cases hg : o.guard with
  | none => rw [hg] at h; exact h
  | some jw =>
    obtain ⟨j, want⟩ := jw
    rw [hg] at h
    obtain ⟨oj, hoj, h1⟩ := onSome_elim h
    obtain ⟨d, hd, h2⟩ := onSome_elim h1
    obtain ⟨v, hv, h3⟩ := onSome_elim h2
    have hval := hA.val d v hv
    have hy : yielded full.toArray a.tmps j = (match a.tmps[d]? with | some (.bool b) => some b | _ => none) := by
      unfold yielded
      simp only [List.getElem?_toArray, hoj, Option.bind_some, hd]
      rfl
    have hget : a.tmps[d]? = some v ∨ (a.tmps[d]? = none ∧ v = undef) := by
      rw [Array.getD_eq_getD_getElem?] at hval
      cases hh : a.tmps[d]? with
      | none => rw [hh] at hval; exact .inr ⟨rfl, hval.symm⟩
      | some u => rw [hh] at hval; exact .inl (congrArg some hval)
    show k (yielded full.toArray a.tmps j == some want)
    rw [hy]
    rcases hget with hh | ⟨hh, rfl⟩
    · rw [hh]
      cases v with
      | bool b => simpa using h3
      | tuple vs => exact h3
      | _ => exact h3.elim
    · rw [hh]; exact h3
def dstsOf (l : List Oper) : List Nat := l.filterMap (·.dst)
/-- under its key stand the deferred calls -/
def defK (l : List Oper) : List Nat := bif l.any fun o => isDefer o.op then [dKey] else []
def modsC : Code → List Nat
  | .region _ ops _ => defK ops.toList ++ dstsOf ops.toList
  | .rangeFunc _ _ _ _ => [dKey]
  | .seq a b => modsC a ++ modsC b
  | .cond _ a b => modsC a ++ modsC b
  | .block _ a | .loop a | .scope a => modsC a
  | _ => []
/-- the slots that are not in M hold what they held -/
structure Keeps (M : List Nat) (a a' : Act) : Prop where
  tmp : ∀ t, t ∉ M → a'.tmps.getD t undef = a.tmps.getD t undef
  dfr : dKey ∉ M → a'.defers = a.defers
theorem Keeps.refl (M : List Nat) (a : Act) : Keeps M a a := ⟨fun _ _ => rfl, fun _ => rfl⟩
theorem Keeps.trans {M : List Nat} {a b c : Act} (h : Keeps M a b) (k : Keeps M b c) : Keeps M a c := ⟨fun t ht => (k.tmp t ht).trans (h.tmp t ht), fun x => (k.dfr x).trans (h.dfr x)⟩
theorem Keeps.mono {M M' : List Nat} {a b : Act} (h : Keeps M a b) (hm : ∀ t ∈ M, t ∈ M') : Keeps M' a b := ⟨fun t ht => h.tmp t fun h' => ht (hm t h'), fun x => h.dfr fun h' => x (hm _ h')⟩
theorem Act.put_defers (a : Act) (d : Option Nat) (v : Value) : (a.put d v).defers = a.defers := by cases d <;> rfl
theorem Keeps.put {M : List Nat} {a b : Act} (h : Keeps M a b) {o : Oper} (hd : ∀ d, o.dst = some d → d ∈ M) (v : Value) : Keeps M a (b.put o.dst v) := by
  refine ⟨fun t ht => ?_, fun x => (Act.put_defers _ _ _).trans (h.dfr x)⟩
  cases hdst : o.dst with
  | none => exact h.tmp t ht
  | some d =>
    have hne : d ≠ t := fun e => ht (e ▸ hd d hdst)
    have := h.tmp t ht
    simpa [Act.put, Array.getElem?_setIfInBounds_ne hne] using this
theorem mem_dstsOf {l : List Oper} {o : Oper} (ho : o ∈ l) {d : Nat} (hd : o.dst = some d) : d ∈ dstsOf l := List.mem_filterMap.2 ⟨o, ho, hd⟩
theorem opsX_to {C : Ctx} (hC : CtxOk C) {ro : Option Nat} {n : Nat} {w0 : World} {a0 : Act} {M : List Nat} {full : List Oper} {N : Fr → Heap → Prop} {Q : Exit → Act → World → Prop}
    (hN : ∀ f a w, N f w.heap → Agr n a f → SameRest w0 w → Keeps M a0 a → Q .normal a w) :
    ∀ (l : List Oper), (∀ o ∈ l, dstOk n o = true) → (∀ o ∈ l, ∀ d, o.dst = some d → d ∈ M) → (∀ o ∈ l, isDefer o.op = true → dKey ∈ M ∧ ro = none) → ∀ (f : Fr) (a : Act) (w : World), opsX C full l N f w.heap → Agr n a f → SameRest w0 w → Keeps M a0 a → wpListIn (FW ro) 0 C.P full.toArray Q l a w
  | [], _, _, _, f, a, w, h, hA, hR, hM => hN f a w h hA hR hM
  | o :: r, hl, hm, hdf, f, a, w, h, hA, hR, hM => by
    have hw := wantX_elim hA (show wantX full f o.guard _ from h)
    have hd := hl o (by simp)
    have hmo := hm o (by simp)
    have hdo := hdf o (by simp)
    have rest := opsX_to (full := full) hC (ro := ro) hN r (fun o' ho' => hl o' (by simp [ho'])) (fun o' ho' => hm o' (by simp [ho'])) (fun o' ho' => hdf o' (by simp [ho']))
    unfold wpListIn
    split
    · rename_i hwant
      rw [hwant] at hw
      cases hid : isDefer o.op with
      | true =>
        obtain ⟨hk, hro⟩ := hdo hid
        have hw : (bif isDefer o.op then deferX f (callOf o.op) fun d => opsX C full r N (putD ((dKey, d) :: f) o.dst undef) w.heap else _) := hw
        rw [hid, cond_true] at hw
        obtain ⟨d, hr, hx⟩ := deferX_to (P := C.P) (w := w) hA.fit hid hw
        refine ⟨fun _ _ => trivial, ?_⟩
        show o.uponIn (FW ro) 0 C.P a _ Q ((o.semAt ro a.eval).run C.P w)
        rw [semAt_plain (.inl hro), hr, Oper.uponIn_defer]
        have hA' : Agr n { a with defers := toD d :: a.defers } ((dKey, d) :: f) := ⟨hA.lim, hA.size, by rw [dfs_dcons, List.map_cons, ← hA.defers], fun t v h => hA.val t v (by rwa [Fr.get_dcons] at h)⟩
        have hM' : Keeps M a0 { a with defers := toD d :: a.defers } := ⟨hM.tmp, fun x => absurd hk x⟩
        exact rest _ _ w hx (hA'.put hd undef) hR (hM'.put hmo undef)
      | false =>
        have hw : (bif isDefer o.op then _ else stepX C f o.op o.type (fun v h' => splitX (guards full o) v fun v => opsX C full r N (putD f o.dst v) h') w.heap) := hw
        rw [hid, cond_false] at hw
        refine wpIn_of_OpTo (.inr hid) (stepX_to hC hA.fit o hw) fun v w' ⟨hr, hk⟩ => ?_
        exact rest _ _ w' (splitX_elim hk) (hA.put hd v) (hR.trans hr) (hM.put hmo v)
    · rename_i hwant
      have hwant' : Region.wanted o (yielded full.toArray a.tmps) = false := by simpa using hwant
      rw [hwant'] at hw
      exact ⟨fun _ _ => trivial, rest _ _ w hw (hA.put hd undef) hR (hM.put hmo undef)⟩
theorem callP_to {C : Ctx} {ro : Option Nat} {f : Fr} {a : Act} (hρ : Fit f a.eval) (o : Oper) (hi : isP C o = true) {k X : Value → Heap → Prop} {next : Act → World → Prop} {Q : Exit → Act → World → Prop} {w : World} (h : callP C f o.op o.type k X w.heap)
    (hk : ∀ v w', SameRest w w' → k v w'.heap → next (a.put o.dst v) w') (hX : ∀ v w', SameRest w w' → X v w'.heap → Q (.panic [{ v := v, recovered := false }]) a w') : o.wpIn (FW ro) 0 C.P a w next Q := by
  obtain ⟨dst, op, type, pos, after, guard⟩ := o
  have hnd : isDefer op = false := by
    cases op with
    | defer c => cases hi
    | _ => rfl
  refine ⟨fun _ _ => trivial, ?_⟩
  show Oper.uponIn (FW ro) 0 C.P _ a next Q ((Oper.semAt ro a.eval _).run C.P w)
  rw [semAt_plain (.inr hnd)]
  unfold callP at h
  split at h
  · rename_i op' g args ats e
    have e : op = _ := e
    subst e
    obtain ⟨⟨fn, hf, hn, hb⟩, hc⟩ := evs_elim hρ h
    have hr : (execOp a.eval (⟨dst, .call { callee := .value (.func g), args := args, argTypes := ats }, type, pos, after, guard⟩ : Oper)).run C.P w = .ok (.enter g ⟨[] ++ args.toList.map a.eval⟩) w := by
      show (callFunc g _).run C.P w = _
      simp only [callFunc, Sem.run_bind, run_program, Result.andThen_ok, hf, hn, hb, Bool.false_eq_true, if_false, Sem.run_pure]
      congr 2
      apply Array.ext'
      simp
    rw [hr, Oper.uponIn_enter]
    refine ⟨(fun x => by cases x), callsIn_FW ((hc w rfl).mono fun e w' he => ?_)⟩
    obtain ⟨hs, h1 | h1⟩ := he
    · obtain ⟨v, rfl, h2⟩ := h1
      exact hk v w' hs (backX_elim h2)
    · obtain ⟨v, rfl, h2⟩ := h1
      exact hX v w' hs h2
  · rename_i op' x e
    have e : op = _ := e
    subst e
    have h := onV_elim hρ h
    have hx : (execOp a.eval (⟨dst, .panic x, type, pos, after, guard⟩ : Oper)).run C.P w = (do Pure.pure (.value (← Instr.panic (a.eval x))) : Sem Next).run C.P w := rfl
    rw [hx]
    generalize a.eval x = v at h
    cases v with
    | iface T u => exact hX (.iface T u) w (.refl w) h
    | _ => exact h.elim
  · exact h.elim
theorem opsP_to {C : Ctx} (hC : CtxOk C) {ro : Option Nat} {n : Nat} {w0 : World} {a0 : Act} {M : List Nat} {full : List Oper} {N : Fr → Heap → Prop} {X : Value → Fr → Heap → Prop} {Q : Exit → Act → World → Prop}
    (hN : ∀ f a w, N f w.heap → Agr n a f → SameRest w0 w → Keeps M a0 a → Q .normal a w)
    (hX : ∀ v f a w, X v f w.heap → Agr n a f → SameRest w0 w → Keeps M a0 a → Q (.panic [{ v := v, recovered := false }]) a w) :
    ∀ (l : List Oper), (∀ o ∈ l, dstOk n o = true) → (∀ o ∈ l, ∀ d, o.dst = some d → d ∈ M) → (∀ o ∈ l, isDefer o.op = true → dKey ∈ M ∧ ro = none) → ∀ (f : Fr) (a : Act) (w : World), opsP C full X l N f w.heap → Agr n a f → SameRest w0 w → Keeps M a0 a → wpListIn (FW ro) 0 C.P full.toArray Q l a w
  | [], _, _, _, f, a, w, h, hA, hR, hM => hN f a w h hA hR hM
  | o :: r, hl, hm, hdf, f, a, w, h, hA, hR, hM => by
    have hw := wantX_elim hA (show wantX full f o.guard _ from h)
    have hd := hl o (by simp)
    have hmo := hm o (by simp)
    have hdo := hdf o (by simp)
    have rest := opsP_to (full := full) hC (ro := ro) hN hX r (fun o' ho' => hl o' (by simp [ho'])) (fun o' ho' => hm o' (by simp [ho'])) (fun o' ho' => hdf o' (by simp [ho']))
    unfold wpListIn
    split
    · rename_i hwant
      rw [hwant] at hw
      have hw : (bif isP C o then callP C f o.op o.type (fun v h' => opsP C full X r N (putD f o.dst v) h') (fun v h' => X v f h') w.heap
        else bif isDefer o.op then deferX f (callOf o.op) fun d => opsP C full X r N (putD ((dKey, d) :: f) o.dst undef) w.heap else _) := hw
      cases hip : isP C o with
      | true =>
        rw [hip, cond_true] at hw
        exact callP_to hA.fit o hip hw (fun v w' hs h1 => rest _ _ w' h1 (hA.put hd v) (hR.trans hs) (hM.put hmo v)) fun v w' hs h1 => hX v f a w' h1 hA (hR.trans hs) hM
      | false =>
        rw [hip, cond_false] at hw
        cases hid : isDefer o.op with
        | true =>
          obtain ⟨hk, hro⟩ := hdo hid
          rw [hid, cond_true] at hw
          obtain ⟨d, hr, hx⟩ := deferX_to (P := C.P) (w := w) hA.fit hid hw
          refine ⟨fun _ _ => trivial, ?_⟩
          show o.uponIn (FW ro) 0 C.P a _ Q ((o.semAt ro a.eval).run C.P w)
          rw [semAt_plain (.inl hro), hr, Oper.uponIn_defer]
          have hA' : Agr n { a with defers := toD d :: a.defers } ((dKey, d) :: f) := ⟨hA.lim, hA.size, by rw [dfs_dcons, List.map_cons, ← hA.defers], fun t v h => hA.val t v (by rwa [Fr.get_dcons] at h)⟩
          have hM' : Keeps M a0 { a with defers := toD d :: a.defers } := ⟨hM.tmp, fun x => absurd hk x⟩
          exact rest _ _ w hx (hA'.put hd undef) hR (hM'.put hmo undef)
        | false =>
          have hw : (bif isDefer o.op then _ else stepX C f o.op o.type (fun v h' => splitX (guards full o) v fun v => opsP C full X r N (putD f o.dst v) h') w.heap) := hw
          rw [hid, cond_false] at hw
          refine wpIn_of_OpTo (.inr hid) (stepX_to hC hA.fit o hw) fun v w' ⟨hr, hk⟩ => ?_
          exact rest _ _ w' (splitX_elim hk) (hA.put hd v) (hR.trans hr) (hM.put hmo v)
    · rename_i hwant
      have hwant' : Region.wanted o (yielded full.toArray a.tmps) = false := by simpa using hwant
      rw [hwant'] at hw
      exact ⟨fun _ _ => trivial, rest _ _ w hw (hA.put hd undef) hR (hM.put hmo undef)⟩
structure Post (n : Nat) (w0 : World) (a0 : Act) (M : List Nat) (Q : Ks) (N : Fr → Heap → Prop) (R : Exit → Act → World → Prop) : Prop where
  normal : ∀ f a w, N f w.heap → Agr n a f → SameRest w0 w → Keeps M a0 a → R .normal a w
  exit : ∀ id f a w, Q.exit id f w.heap → Agr n a f → SameRest w0 w → Keeps M a0 a → R (.exit id) a w
  ret : ∀ f a w, Q.ret f w.heap → Agr n a f → SameRest w0 w → (dKey ∉ M → a.defers = a0.defers) → R .ret a w
  pan : ∀ v f a w, Q.pan v f w.heap → Agr n a f → SameRest w0 w → (dKey ∉ M → a.defers = a0.defers) → R (.panic [{ v := v, recovered := false }]) a w
theorem loop_wp {F : Fence} {m : Nat} {P : Program} {c : Code} {Q : Exit → Act → World → Prop} (good : Nat → Act → World → Prop)
    (round : ∀ k a w, good k a w → c.wpIn F m P (Exit.then (fun a' w' => ∃ k', k' < k ∧ good k' a' w') Q) a w) {k : Nat} {a : Act} {w : World} (h0 : good k a w) : (Code.loop c).wpIn F m P Q a w := by
  intro b kk cs hro hb hr
  have key : ∀ (k : Nat) (a : Act) (w : World), good k a w → ∃ e a' w', Q e a' w' ∧ ArrivesIn (Machine.fenced P F) P (lone (b.atR a (.code c :: .inLoop c :: kk)) cs w) b kk cs e a' w' := by
    intro k
    induction k using Nat.strongRecOn with
    | _ k ih =>
      intro a w hg
      obtain ⟨e, a1, w1, hq, harr⟩ := round k a w hg b (.inLoop c :: kk) cs hro hb hr
      cases e with
      | normal =>
        obtain ⟨k', hlt, hg'⟩ := hq
        obtain ⟨e2, a2, w2, hq2, harr2⟩ := ih k' hlt a1 w1 hg'
        exact ⟨e2, a2, w2, hq2, .of_steps (StepsIn.trans harr (.one (fenced_calm hb hr rfl) stepR_inLoop)) harr2⟩
      | outgrown => exact ⟨_, a1, w1, hq, .pass (x := .inLoop c) rfl (fun _ _ => .inl (by simp)) harr⟩
      | exit id => exact ⟨_, a1, w1, hq, .pass (x := .inLoop c) rfl (fun _ _ => .inl (by simp)) harr⟩
      | goto l => exact ⟨_, a1, w1, hq, .pass (x := .inLoop c) rfl (fun _ _ => .inl (by simp)) harr⟩
      | ret => exact ⟨_, a1, w1, hq, .pass (x := .inLoop c) rfl (fun _ _ => .inl (by simp)) harr⟩
      | panic ch => exact ⟨_, a1, w1, hq, .pass (x := .inLoop c) rfl (fun _ _ => .inl (by simp)) harr⟩
  obtain ⟨e, a', w', hq, harr⟩ := key k a w h0
  exact ⟨e, a', w', hq, .of_steps (.one (fenced_calm hb hr rfl) stepR_loop) harr⟩
theorem stepR_scope {P : Program} {b : Frame} {a : Act} {k : List Item} {cs : List Frame} {w : World} {c : Code} : step P (lone (b.atR a (.code (.scope c) :: k)) cs w) = .next (lone (b.atR a (.code c :: .inScope c :: k)) cs w) :=
  step_lone_go (by simp [stepG, stepG.exec, Frame.atR])
theorem stepR_inScope {P : Program} {b : Frame} {a : Act} {k : List Item} {cs : List Frame} {w : World} {c : Code} : step P (lone (b.atR a (.inScope c :: k)) cs w) = .next (lone (b.atR a k) cs w) :=
  step_lone_go (by simp [stepG, stepG.exec, Frame.atR])
theorem wpIn_scope_straight {F : Fence} {m : Nat} {P : Program} {c : Code} {Q : Exit → Act → World → Prop} {a : Act} {w : World} (h : c.wpIn F m P (Exit.noGoto Q) a w) : (Code.scope c).wpIn F m P Q a w := by
  intro b k cs hro hb hr
  have h0 : (lone (b.atR a (.code (.scope c) :: k)) cs w).fenced P F := fenced_calm hb hr rfl
  obtain ⟨e, a₁, w₁, hq, harr⟩ := h b (.inScope c :: k) cs hro hb hr
  cases e with
  | normal => exact ⟨.normal, a₁, w₁, hq, .head h0 stepR_scope (StepsIn.trans harr (.one (fenced_calm hb hr rfl) stepR_inScope))⟩
  | exit id =>
    have hx : exitTo id (.inScope c :: k) = exitTo id k := by simp [exitTo]
    exact ⟨.exit id, a₁, w₁, hq, fun k' hk => .head h0 stepR_scope (harr.1 k' (by rw [hx]; exact hk)),
      fun hr' hk => let ⟨k₁, h1, h2⟩ := harr.2 hr' (by rw [hx]; exact hk); ⟨k₁, h1, .head h0 stepR_scope h2⟩⟩
  | goto l => exact hq.elim
  | ret => exact ⟨_, a₁, w₁, hq, .of_steps (.one h0 stepR_scope) harr⟩
  | panic ch => exact ⟨_, a₁, w₁, hq, .of_steps (.one h0 stepR_scope) harr⟩
  | outgrown => exact ⟨_, a₁, w₁, hq, .of_steps (.one h0 stepR_scope) harr⟩
theorem Fr.get_nil (t : Nat) : Fr.get [] t = none := by
  unfold Fr.get; cases Nat.beq t dKey <;> rfl
theorem keepF_get (f : Fr) : ∀ (l : List Nat) (t : Nat) (v : Value), Fr.get (keepF f l) t = some v → t ∈ l ∧ Fr.get f t = some v
  | [], t, v, h => by rw [show keepF f [] = [] from rfl, Fr.get_nil] at h; cases h
  | x :: r, t, v, h => by
    unfold keepF at h
    cases hx : Fr.get f x with
    | none => rw [hx] at h; obtain ⟨h1, h2⟩ := keepF_get f r t v h; exact ⟨by simp [h1], h2⟩
    | some u =>
      rw [hx] at h
      simp only at h
      rw [Fr.get_cons _ _ _ _ (Fr.some_ne hx)] at h
      by_cases e : x = t
      · subst e; rw [if_pos rfl] at h; exact ⟨by simp, hx.trans h⟩
      · rw [if_neg e] at h; obtain ⟨h1, h2⟩ := keepF_get f r t v h; exact ⟨by simp [h1], h2⟩
theorem keepF_dfs (f : Fr) : ∀ l : List Nat, dfs (keepF f l) = []
  | [] => rfl
  | x :: r => by
    unfold keepF
    cases hx : Fr.get f x with
    | none => exact keepF_dfs f r
    | some u => show dfs ((x, u) :: keepF f r) = []; rw [dfs_cons _ _ _ (Fr.some_ne hx), keepF_dfs f r]
theorem enter_loop {n : Nat} {a : Act} {f2 : Fr} (hA : Agr n a f2) {R S : Type} :
    ∀ (l : List (Nat × Ty)) (I : Curry l R) (μ : Curry l S) (fk : Fr) (K : R → S → Prop) (Kall : R → S → Fr → Prop), atT l I μ f2 K → allT l I μ fk Kall → (∀ t v, Fr.get fk t = some v → a.tmps.getD t undef = v) →
    ∃ i m f', K i m ∧ Kall i m f' ∧ dfs f' = dfs fk ∧ ∀ t v, Fr.get f' t = some v → a.tmps.getD t undef = v := by
  have base : ∀ (fk : Fr) (t : Nat) (v : Value), Fr.get f2 t = some v → (∀ t v, Fr.get fk t = some v → a.tmps.getD t undef = v) → ∀ t' v', Fr.get ((t, v) :: fk) t' = some v' → a.tmps.getD t' undef = v' := by
    intro fk t v hg hb t' v' h'
    rw [Fr.get_cons _ _ _ _ (Fr.some_ne hg)] at h'
    by_cases e : t = t'
    · subst e; rw [if_pos rfl] at h'; have := Option.some.inj h'; subst this; exact hA.val _ _ hg
    · rw [if_neg e] at h'; exact hb _ _ h'
  have tail_ : ∀ {t : Nat} {v : Value} {fk : Fr} {K : R → S → Prop} {Kall : R → S → Fr → Prop}, Fr.get f2 t = some v → (∃ i m f', K i m ∧ Kall i m f' ∧ dfs f' = dfs ((t, v) :: fk) ∧ ∀ t v, Fr.get f' t = some v → a.tmps.getD t undef = v) →
      ∃ i m f', K i m ∧ Kall i m f' ∧ dfs f' = dfs fk ∧ ∀ t v, Fr.get f' t = some v → a.tmps.getD t undef = v := by
    rintro t v fk K Kall hv ⟨i, m, f', h1, h2, h3, h4⟩
    exact ⟨i, m, f', h1, h2, by rw [h3, dfs_cons _ _ _ (Fr.some_ne hv)], h4⟩
  intro l
  induction l with
  | nil => intro I μ fk K Kall h1 h2 hb; exact ⟨I, μ, fk, h1, h2, rfl, hb⟩
  | cons x r ih =>
    obtain ⟨t, ty⟩ := x
    intro I μ fk K Kall h1 h2 hb
    cases ty with
    | int kd =>
      obtain ⟨v, hv, h1⟩ := onSome_elim h1
      obtain ⟨k', m, rfl, h3⟩ := onInt_elim h1
      cases hk : kindEq kd k' with
      | false => rw [hk] at h3; exact h3.elim
      | true => rw [hk] at h3; obtain rfl := kindEq_eq hk; exact tail_ hv (ih _ _ _ _ _ h3 (h2 m) (base _ _ _ hv hb))
    | bool =>
      obtain ⟨v, hv, h1⟩ := onSome_elim h1
      obtain ⟨b, rfl, h3⟩ := onBool_elim h1
      exact tail_ hv (ih _ _ _ _ _ h3 (h2 b) (base _ _ _ hv hb))
    | str =>
      obtain ⟨v, hv, h1⟩ := onSome_elim h1
      obtain ⟨b, rfl, h3⟩ := onStr_elim h1
      exact tail_ hv (ih _ _ _ _ _ h3 (h2 b) (base _ _ _ hv hb))
    | ptr =>
      obtain ⟨v, hv, h1⟩ := onSome_elim h1
      obtain ⟨b, rfl, h3⟩ := onPtr_elim h1
      exact tail_ hv (ih _ _ _ _ _ h3 (h2 b) (base _ _ _ hv hb))
    | slice =>
      obtain ⟨v, hv, h1⟩ := onSome_elim h1
      obtain ⟨b, l', c, rfl, h3⟩ := onSlice_elim h1
      exact tail_ hv (ih _ _ _ _ _ h3 (h2 b l' c) (base _ _ _ hv hb))
    | agg =>
      obtain ⟨v, hv, h1⟩ := onSome_elim h1
      obtain ⟨b, rfl, h3⟩ := onAgg_elim h1
      exact tail_ hv (ih _ _ _ _ _ h3 (h2 b) (base _ _ _ hv hb))
    | any =>
      obtain ⟨v, hv, h1⟩ := onSome_elim h1
      exact tail_ hv (ih _ _ _ _ _ h1 (h2 v) (base _ _ _ hv hb))
    | clo =>
      obtain ⟨v, hv, h1⟩ := onSome_elim h1
      exact tail_ hv (ih _ _ _ _ _ h1 (h2 v) (base _ _ _ hv hb))
    | map =>
      obtain ⟨v, hv, h1⟩ := onSome_elim h1
      obtain ⟨b, rfl, h3⟩ := onMap_elim h1
      exact tail_ hv (ih _ _ _ _ _ h3 (h2 b) (base _ _ _ hv hb))
/-- no loop over a function, no deferred call -/
def noRF : Code → Bool
  | .region _ ops _ => ops.toList.all fun o => !isDefer o.op
  | .seq a b => noRF a && noRF b
  | .cond _ a b => noRF a && noRF b
  | .block _ a | .loop a | .scope a => noRF a
  | .rangeFunc _ _ _ _ => false
  | _ => true
def sameNats : List Nat → List Nat → Bool
  | [], [] => true
  | a :: r, b :: s => Nat.beq a b && sameNats r s
  | _, _ => false
theorem sameNats_eq : ∀ {a b : List Nat}, sameNats a b = true → a = b
  | [], [], _ => rfl
  | a :: r, b :: s, h => by
    simp only [sameNats, Bool.and_eq_true] at h
    rw [Nat.eq_of_beq_eq_true h.1, sameNats_eq h.2]
  | [], _ :: _, h => by cases h
  | _ :: _, [], h => by cases h
/-- what is asked of the code, once: the slots are in range, the hints fit; drawn: what is asked of a region whose order is open -/
def codeOk (C : Ctx) (n : Nat) (drawn : Nat → List Oper → Bool) : Code → Bool
  | .region id ops draw => (ops.toList.all (dstOk n)) && (bif draw then (ops.toList.all fun o => !isDefer o.op) && drawn id ops.toList else true)
  | .seq a b => codeOk C n drawn a && codeOk C n drawn b
  | .cond _ a b => codeOk C n drawn a && codeOk C n drawn b
  | .block _ a => codeOk C n drawn a
  | .scope a => codeOk C n drawn a
  | .loop a => codeOk C n drawn a && ((C.loops (loopNo a)).1.all fun t => (modsC a).all fun m => !(Nat.beq m t)) && (modsC a).all fun m => !(Nat.beq m dKey)
  | .rangeFunc _ ps assign body => codeOk C n drawn assign && codeOk C n drawn body && noRF assign && noRF body && sameNats ps.toList ((C.loops (rfNo assign body)).2.map (·.1)) && ps.toList.all fun t => Nat.blt t n
  | _ => true
/-- the law of drawn regions, proved further on -/
def DrawnLaw (C : Ctx) (n : Nat) (drawn : Nat → List Oper → Bool) : Prop :=
  ∀ (ro : Option Nat) (id : Nat) (ops : Array Oper) (N : Fr → Heap → Prop) (R : Exit → Act → World → Prop) (f : Fr) (a : Act) (w0 w : World), drawn id ops.toList = true → (∀ o ∈ ops.toList, dstOk n o = true) → (∀ o ∈ ops.toList, isDefer o.op = false) →
    earlyX C ops.toList (C.orders id) N f w.heap → Agr n a f → SameRest w0 w → (∀ f a' w, N f w.heap → Agr n a' f → SameRest w0 w → Keeps (dstsOf ops.toList) a a' → R .normal a' w) →
    (Code.region id ops true).wpIn (FW ro) 0 C.P R a w
/-- a row of slots is written -/
def puts (f : Fr) : List (Nat × Value) → Fr
  | [] => f
  | p :: r => puts (p :: f) r
def fillT (tmps : Array Value) (ps : List (Nat × Value)) : Array Value := ps.foldl (fun tmps p => tmps.setIfInBounds p.1 p.2) tmps
theorem allA_intro : ∀ (l : List (Nat × Ty)) (f : Fr) (acc : List Value) (K : Fr → List Value → Prop), (∀ vs : List Value, vs.length = l.length → K (puts f ((l.map (·.1)).zip vs)) (acc ++ vs)) → allA l f acc K
  | [], f, acc, K, h => by
    have := h [] rfl
    rw [List.append_nil] at this
    exact this
  | (t, ty) :: r, f, acc, K, h => by
    have go : ∀ v : Value, allA r ((t, v) :: f) (acc ++ [v]) K := fun v => by
      refine allA_intro r ((t, v) :: f) (acc ++ [v]) K fun vs hl => ?_
      have := h (v :: vs) (by simp [hl])
      simpa [puts] using this
    cases ty with
    | int k => exact fun n => go _
    | bool => exact fun n => go _
    | str => exact fun n => go _
    | ptr => exact fun n => go _
    | slice => exact fun a l c => go _
    | agg => exact fun n => go _
    | any => exact fun n => go _
    | clo => exact fun n => go _
    | map => exact fun n => go _
theorem puts_agr {n : Nat} : ∀ (ps : List (Nat × Value)) (tmps : Array Value) (f : Fr), Agr n { tmps := tmps, defers := [] } f → (∀ p ∈ ps, p.1 < n) → Agr n { tmps := fillT tmps ps, defers := [] } (puts f ps)
  | [], tmps, f, h, _ => h
  | (d, v) :: r, tmps, f, h, hp => by
    have hlt : d < n := hp (d, v) (by simp)
    have hne : d ≠ dKey := Nat.ne_of_lt (Nat.lt_of_lt_of_le hlt h.lim)
    refine puts_agr r (tmps.setIfInBounds d v) ((d, v) :: f) ⟨h.lim, by simpa using h.size, by rw [dfs_cons _ _ _ hne]; exact h.defers, fun t u hu => ?_⟩ fun p hp' => hp p (by simp [hp'])
    rw [Fr.get_cons _ _ _ _ hne] at hu
    by_cases e : d = t
    · subst e
      rw [if_pos rfl] at hu
      have := Option.some.inj hu
      subst this
      have hs : d < tmps.size := by have := h.size; simp only at this; omega
      simp [hs]
    · rw [if_neg e] at hu
      have := h.val t u hu
      simpa [Array.getElem?_setIfInBounds_ne e] using this
theorem exX_elim {i : Nat} {E : Nat → Prop} : ∀ {l : List Nat}, exX l i E → E i
  | [], h => h.elim
  | j :: r, h => by
    have h : bif Nat.beq i j then E j else exX r i E := h
    cases hb : Nat.beq i j with
    | true => rw [hb] at h; rw [Nat.eq_of_beq_eq_true hb]; exact h
    | false => rw [hb] at h; exact exX_elim (l := r) h
theorem wpx_to {C : Ctx} (hC : CtxOk C) {n : Nat} {drawn : Nat → List Oper → Bool} (hD : DrawnLaw C n drawn) :
    ∀ (c : Code), codeOk C n drawn c = true → ∀ (ro : Option Nat), (ro = none ∨ noRF c = true) → ∀ (w0 : World) (Q : Ks) (N : Fr → Heap → Prop) (R : Exit → Act → World → Prop) (f : Fr) (a : Act) (w : World),
      wpx C c Q N f w.heap → Agr n a f → SameRest w0 w → Post n w0 a (modsC c) Q N R → c.wpIn (FW ro) 0 C.P R a w := by
  intro c
  induction c with
  | skip => intro _ ro _ w0 Q N R f a w h hA hR hP; exact wpIn_skip (hP.normal f a w h hA hR (.refl _ _))
  | region id ops draw =>
    intro hok ro hro w0 Q N R f a w h hA hR hP
    simp only [codeOk, Bool.and_eq_true, List.all_eq_true] at hok
    have sub : ∀ t ∈ dstsOf ops.toList, t ∈ modsC (Code.region id ops draw) := fun t ht => List.mem_append_right _ ht
    cases draw with
    | true =>
      have hok2 := hok.2
      rw [cond_true, Bool.and_eq_true, List.all_eq_true] at hok2
      exact hD ro id ops N R f a w0 w hok2.2 hok.1 (fun o ho => by simpa using hok2.1 o ho) h hA hR fun f a' w h1 h2 h3 h4 => hP.normal f a' w h1 h2 h3 (h4.mono sub)
    | false =>
      refine wpIn_region_list ?_
      have h : (bif ops.toList.any (isP C) then opsP C ops.toList Q.pan ops.toList N f w.heap else opsX C ops.toList ops.toList N f w.heap) := h
      have hdef : ∀ o ∈ ops.toList, isDefer o.op = true → dKey ∈ modsC (Code.region id ops false) ∧ ro = none := fun o ho hd => ⟨List.mem_append_left _ (by
        unfold defK
        rw [List.any_eq_true.mpr ⟨o, ho, hd⟩]; simp), by
        rcases hro with h | h
        · exact h
        · have := List.all_eq_true.1 h o ho
          rw [hd] at this; cases this⟩
      cases hp : ops.toList.any (isP C) with
      | true =>
        rw [hp, cond_true] at h
        have := opsP_to (Q := R) hC (ro := ro) (full := ops.toList) (fun f a' w h1 h2 h3 h4 => hP.normal f a' w h1 h2 h3 h4) (fun v f a' w h1 h2 h3 h4 => hP.pan v f a' w h1 h2 h3 h4.dfr) ops.toList hok.1 (fun o ho d hd => sub _ (mem_dstsOf ho hd)) hdef f a w h hA hR (Keeps.refl _ _)
        simpa using this
      | false =>
      rw [hp, cond_false] at h
      have := opsX_to (Q := R) hC (ro := ro) (full := ops.toList) (fun f a' w h1 h2 h3 h4 => hP.normal f a' w h1 h2 h3 h4) ops.toList hok.1 (fun o ho d hd => sub _ (mem_dstsOf ho hd)) (fun o ho hd => ⟨List.mem_append_left _ (by
        unfold defK
        rw [List.any_eq_true.mpr ⟨o, ho, hd⟩]; simp), by
        rcases hro with h | h
        · exact h
        · have := List.all_eq_true.1 h o ho
          rw [hd] at this; cases this⟩) f a w h hA hR (Keeps.refl _ _)
      simpa using this
  | seq x y ihx ihy =>
    intro hok ro hro w0 Q N R f a w h hA hR hP
    simp only [codeOk, Bool.and_eq_true] at hok
    have hrx : ro = none ∨ noRF x = true := hro.imp id fun h => by simp only [noRF, Bool.and_eq_true] at h; exact h.1
    have hry : ro = none ∨ noRF y = true := hro.imp id fun h => by simp only [noRF, Bool.and_eq_true] at h; exact h.2
    refine wpIn_seq (ihx hok.1 ro hrx w0 Q _ _ f a w h hA hR ⟨?_, ?_, ?_, ?_⟩)
    · intro f1 a1 w1 h1 hA1 hR1 hM1
      refine ihy hok.2 ro hry w0 Q N R f1 a1 w1 h1 hA1 hR1 ⟨?_, ?_, ?_, ?_⟩
      · intro f2 a2 w2 h2 hA2 hR2 hM2
        exact hP.normal f2 a2 w2 h2 hA2 hR2 ((hM1.mono fun t ht => by simp [modsC, ht]).trans (hM2.mono fun t ht => by simp [modsC, ht]))
      · intro id f2 a2 w2 h2 hA2 hR2 hM2
        exact hP.exit id f2 a2 w2 h2 hA2 hR2 ((hM1.mono fun t ht => by simp [modsC, ht]).trans (hM2.mono fun t ht => by simp [modsC, ht]))
      · exact fun f2 a2 w2 h2 hA2 hR2 hd => hP.ret f2 a2 w2 h2 hA2 hR2 fun hn => (hd fun x => hn (by simp [modsC, x])).trans (hM1.dfr fun x => hn (by simp [modsC, x]))
      · exact fun v f2 a2 w2 h2 hA2 hR2 hd => hP.pan v f2 a2 w2 h2 hA2 hR2 fun hn => (hd fun x => hn (by simp [modsC, x])).trans (hM1.dfr fun x => hn (by simp [modsC, x]))
    · exact fun id f1 a1 w1 h1 hA1 hR1 hM1 => hP.exit id f1 a1 w1 h1 hA1 hR1 (hM1.mono fun t ht => by simp [modsC, ht])
    · exact fun f1 a1 w1 h1 hA1 hR1 hd => hP.ret f1 a1 w1 h1 hA1 hR1 fun hn => hd fun x => hn (by simp [modsC, x])
    · exact fun v f1 a1 w1 h1 hA1 hR1 hd => hP.pan v f1 a1 w1 h1 hA1 hR1 fun hn => hd fun x => hn (by simp [modsC, x])
  | cond c x y ihx ihy =>
    intro hok ro hro w0 Q N R f a w h hA hR hP
    simp only [codeOk, Bool.and_eq_true] at hok
    have hrx : ro = none ∨ noRF x = true := hro.imp id fun h => by simp only [noRF, Bool.and_eq_true] at h; exact h.1
    have hry : ro = none ∨ noRF y = true := hro.imp id fun h => by simp only [noRF, Bool.and_eq_true] at h; exact h.2
    obtain ⟨t, hc, h1⟩ := onBool_elim (onV_elim hA.fit h)
    refine wpIn_cond hc ?_
    cases t with
    | true => exact ihx hok.1 ro hrx w0 Q N R f a w h1 hA hR ⟨fun f a' w h1 h2 h3 h4 => hP.normal f a' w h1 h2 h3 (h4.mono fun t ht => by simp [modsC, ht]), fun id f a' w h1 h2 h3 h4 => hP.exit id f a' w h1 h2 h3 (h4.mono fun t ht => by simp [modsC, ht]), fun f a' w h1 h2 h3 hd => hP.ret f a' w h1 h2 h3 fun hn => hd fun x => hn (by simp [modsC, x]), fun v f a' w h1 h2 h3 hd => hP.pan v f a' w h1 h2 h3 fun hn => hd fun x => hn (by simp [modsC, x])⟩
    | false => exact ihy hok.2 ro hry w0 Q N R f a w h1 hA hR ⟨fun f a' w h1 h2 h3 h4 => hP.normal f a' w h1 h2 h3 (h4.mono fun t ht => by simp [modsC, ht]), fun id f a' w h1 h2 h3 h4 => hP.exit id f a' w h1 h2 h3 (h4.mono fun t ht => by simp [modsC, ht]), fun f a' w h1 h2 h3 hd => hP.ret f a' w h1 h2 h3 fun hn => hd fun x => hn (by simp [modsC, x]), fun v f a' w h1 h2 h3 hd => hP.pan v f a' w h1 h2 h3 fun hn => hd fun x => hn (by simp [modsC, x])⟩
  | block id x ih =>
    intro hok ro hro w0 Q N R f a w h hA hR hP
    refine wpIn_block (ih hok ro hro w0 _ _ _ f a w h hA hR ⟨fun f a' w h1 h2 h3 h4 => hP.normal f a' w h1 h2 h3 h4, ?_, fun f a' w h1 h2 h3 hd => hP.ret f a' w h1 h2 h3 hd, fun v f a' w h1 h2 h3 hd => hP.pan v f a' w h1 h2 h3 hd⟩)
    intro i f1 a1 w1 h1 hA1 hR1 hM1
    show Exit.inBlock id R (.exit i) a1 w1
    simp only [Exit.inBlock]
    cases hb : Nat.beq i id with
    | true =>
      rw [if_pos (Nat.eq_of_beq_eq_true hb)]
      exact hP.normal f1 a1 w1 (by simpa [hb] using h1) hA1 hR1 hM1
    | false =>
      have : i ≠ id := fun e => by subst e; rw [Nat.beq_refl] at hb; cases hb
      rw [if_neg this]
      exact hP.exit i f1 a1 w1 (by simpa [hb] using h1) hA1 hR1 hM1
  | scope x ih =>
    intro hok ro hro w0 Q N R f a w h hA hR hP
    exact wpIn_scope_straight (ih hok ro hro w0 Q N (Exit.noGoto R) f a w h hA hR ⟨fun f a' w h1 h2 h3 h4 => hP.normal f a' w h1 h2 h3 h4, fun i f a' w h1 h2 h3 h4 => hP.exit i f a' w h1 h2 h3 h4, fun f a' w h1 h2 h3 hd => hP.ret f a' w h1 h2 h3 hd, fun v f a' w h1 h2 h3 hd => hP.pan v f a' w h1 h2 h3 hd⟩)
  | label l => intro _ ro _ w0 Q N R f a w h hA hR hP; exact wpIn_label (hP.normal f a w h hA hR (.refl _ _))
  | exit id => intro _ ro _ w0 Q N R f a w h hA hR hP; exact wpIn_exit (hP.exit id f a w h hA hR (.refl _ _))
  | ret => intro _ ro _ w0 Q N R f a w h hA hR hP; exact wpIn_ret (hP.ret f a w h hA hR fun _ => rfl)
  | loop x ih =>
    intro hok ro hro w0 Q N R f a w h hA hR hP
    simp only [codeOk, Bool.and_eq_true] at hok
    obtain ⟨⟨hokx, hkeep⟩, hnd⟩ := hok
    obtain ⟨I, μ, hat, hall⟩ := h
    have hkey : dKey ∉ modsC x := fun hm => by
      have := List.all_eq_true.1 hnd _ hm
      simp [Nat.beq_refl] at this
    have hdis : ∀ t ∈ (C.loops (loopNo x)).1, t ∉ modsC x := by
      intro t ht hm
      have := List.all_eq_true.1 (List.all_eq_true.1 hkeep t ht) t hm
      simp [Nat.beq_refl] at this
    have hbase : ∀ a' : Act, Keeps (modsC x) a a' → ∀ t v, Fr.get (addDs (dfs f) (keepF f (C.loops (loopNo x)).1)) t = some v → a'.tmps.getD t undef = v := by
      intro a' hM t v hg
      rw [Fr.get_addDs] at hg
      obtain ⟨h1, h2⟩ := keepF_get f _ t v hg
      rw [hM.tmp t (hdis t h1)]
      exact hA.val t v h2
    have hdfs : dfs (addDs (dfs f) (keepF f (C.loops (loopNo x)).1)) = dfs f := by rw [dfs_addDs, keepF_dfs, List.append_nil]
    let Kall : (Heap → Prop) → (Heap → Nat) → Fr → Prop := fun i m f' => ∀ h', i h' → wpx C x Q (fun f2 h2 => atT (C.loops (loopNo x)).2 I μ f2 fun i2 m2 => i2 h2 ∧ m2 h2 < m h') f' h'
    let good : Nat → Act → World → Prop := fun k a' w' => ∃ i m f', m w'.heap = k ∧ i w'.heap ∧ Kall i m f' ∧ Agr n a' f' ∧ SameRest w0 w' ∧ Keeps (modsC x) a a'
    have agr : ∀ {a' : Act} {f' f2 : Fr}, Keeps (modsC x) a a' → Agr n a' f2 → dfs f' = dfs (addDs (dfs f) (keepF f (C.loops (loopNo x)).1)) → (∀ t v, Fr.get f' t = some v → a'.tmps.getD t undef = v) → Agr n a' f' :=
      fun hM hA' hd hv => ⟨hA'.lim, hA'.size, by rw [hM.dfr hkey, hA.defers, hd, hdfs], hv⟩
    have start : ∃ k, good k a w := by
      obtain ⟨i, m, f', h1, h2, hd, h3⟩ := enter_loop hA _ I μ _ _ Kall hat hall (hbase a (.refl _ _))
      exact ⟨m w.heap, i, m, f', rfl, h1, h2, agr (.refl _ _) hA hd h3, hR, .refl _ _⟩
    obtain ⟨k, hg⟩ := start
    refine loop_wp good ?_ hg
    rintro k1 a1 w1 ⟨i, m, f', rfl, hi, hK, hA1, hR1, hM1⟩
    refine ih hokx ro hro w0 Q _ _ f' a1 w1 (hK _ hi) hA1 hR1 ⟨?_, ?_, ?_, ?_⟩
    · intro f2 a2 w2 h2 hA2 hR2 hM2
      obtain ⟨i', m', f3, ⟨h1, hlt⟩, h4, hd, h3⟩ := enter_loop hA2 _ I μ _ _ Kall h2 hall (hbase a2 (hM1.trans hM2))
      exact ⟨m' w2.heap, hlt, i', m', f3, rfl, h1, h4, agr (hM1.trans hM2) hA2 hd h3, hR2, hM1.trans hM2⟩
    · exact fun id f2 a2 w2 h2 hA2 hR2 hM2 => hP.exit id f2 a2 w2 h2 hA2 hR2 (hM1.trans hM2)
    · exact fun f2 a2 w2 h2 hA2 hR2 hd => hP.ret f2 a2 w2 h2 hA2 hR2 fun hn => (hd hn).trans (hM1.dfr hn)
    · exact fun v f2 a2 w2 h2 hA2 hR2 hd => hP.pan v f2 a2 w2 h2 hA2 hR2 fun hn => (hd hn).trans (hM1.dfr hn)
  | rangeFunc g ps assign body iha ihb =>
    intro hok ro hro w0 Q N R f a w h hA hR hP
    simp only [codeOk, Bool.and_eq_true, List.all_eq_true] at hok
    obtain ⟨⟨⟨⟨⟨hoa, hob⟩, hna⟩, hnb⟩, hps⟩, hlt⟩ := hok
    have hps := sameNats_eq hps
    have hro : ro = none := by
      rcases hro with h | h
      · exact h
      · cases h
    subst hro
    have h := onV_elim hA.fit h
    refine wpIn_rangeFunc fun fn _ => ?_
    have h := h { state := .ready, pending := none, fn := fn, tmps := a.tmps, params := ps, assign := assign, body := body, defers := w.heap.size }
    generalize hL : ({ state := .ready, pending := none, fn := fn, tmps := a.tmps, params := ps, assign := assign, body := body, defers := w.heap.size } : Loop) = L at h
    have hl : w.heap.size + 1 = w.heap.size + 1 := rfl
    -- the rounds
    have rounds : allA (C.loops (rfNo assign body)).2 (noD f) [] fun f' args => ∀ (h3 : Heap) (k : Value → Heap → Prop),
        LoopOn h3 (w.heap.size + 1) L .ready none →
        wpx C assign { exit := fun _ _ _ => False, ret := fun _ _ => False }
          (fun f2 h4 => LoopOn h4 (w.heap.size + 1) L .ready none ∧
            wpx C body { exit := fun i _ h5 => LoopOn h5 (w.heap.size + 1) L .busy none ∧ k (.bool false) (setLoop h5 (w.heap.size + 1) L .done (some (.exit i))),
                         ret := fun _ h5 => LoopOn h5 (w.heap.size + 1) L .busy none ∧ k (.bool false) (setLoop h5 (w.heap.size + 1) L .done (some .ret)) }
              (fun _ h5 => LoopOn h5 (w.heap.size + 1) L .busy none ∧ k (.bool true) (setLoop h5 (w.heap.size + 1) L .ready none)) f2 (setLoop h4 (w.heap.size + 1) L .busy none)) f' h3 →
        YCalls C.P (w.heap.size + 1) args h3 k := by
      refine allA_intro _ _ _ _ fun vs hlen h3 k hon hx w3 hw3 => ?_
      subst hw3
      subst hL
      have hsz : vs.length = ps.size := by
        have := congrArg List.length hps
        simp only [List.length_map, Array.length_toList] at this
        omega
      have hrun := run_yield (P := C.P) (args := ⟨vs⟩) hon (by simpa using hsz)
      refine ⟨_, _, _, _, hrun, ?_⟩
      refine roundIn_of_wpIn trivial ?_
      have hfill : (ps.zip ⟨vs⟩).foldl (fun tmps (x : Nat × Value) => tmps.setIfInBounds x.1 x.2) a.tmps = fillT a.tmps (((C.loops (rfNo assign body)).2.map (·.1)).zip vs) := by
        rw [← hps, fillT, ← Array.foldl_toList, Array.toList_zip]
      have hA0 : Agr n { tmps := a.tmps, defers := [] } (noD f) := ⟨hA.lim, hA.size, by rw [noD_dfs]; rfl, fun t v h => hA.val t v (by rwa [noD_get] at h)⟩
      have hA1 := puts_agr (((C.loops (rfNo assign body)).2.map (·.1)).zip vs) a.tmps (noD f) hA0 fun p hp => by
        have := (List.of_mem_zip hp).1
        rw [← hps] at this
        exact Nat.le_of_ble_eq_true (hlt _ this)
      rw [← hfill] at hA1
      have sr : ∀ {w5 : World} (o : Obj), SameRest w3 w5 → SameRest w3 (w5.putObj (w.heap.size + 1) o) := fun o h => ⟨h.1, h.2.1, h.2.2⟩
      refine iha hoa (some _) (.inr hna) w3 _ _ _ _ _ w3 hx hA1 (.refl _) ⟨fun f4 a4 w4 h4 hA4 hR4 _ => ?_, fun _ _ _ _ h => h.elim, fun _ _ _ h => h.elim, fun _ _ _ _ h => h.elim⟩
      obtain ⟨hon4, hx4⟩ := h4
      refine ⟨_, run_beginRound hon4 rfl, ?_⟩
      refine ihb hob (some _) (.inr hnb) w3 _ _ _ f4 a4 (w4.putObj (w.heap.size + 1) _) hx4 hA4 (sr _ hR4) ⟨fun f5 a5 w5 h5 _ hR5 _ => ?_, fun i f5 a5 w5 h5 _ hR5 _ => ?_, fun f5 a5 w5 h5 _ hR5 _ => ?_, fun _ _ _ _ h => h.elim⟩
      · exact ⟨_, _, run_endRound none h5.1, _, rfl, sr _ hR5, h5.2⟩
      · exact ⟨_, _, run_endRound (some (.exit i)) h5.1, _, rfl, sr _ hR5, h5.2⟩
      · exact ⟨_, _, run_endRound (some .ret) h5.1, _, rfl, sr _ hR5, h5.2⟩
    have h := h rounds
    unfold HCallsF at h
    split at h
    · rename_i gid fs cs hv
      obtain ⟨⟨fn', hf', hn', hb'⟩, hc⟩ := h
      let w1 : World := (w.alloc (.deferred (some []))).alloc (.loop L)
      have hw1 : w1.heap = beginL w.heap L := by subst hL; rfl
      have hsr1 : SameRest w w1 := ⟨rfl, rfl, rfl⟩
      refine ⟨w.heap.size + 1, [{ target := .collected w.heap.size, args := #[] }], w1, { target := .fn (.func gid) cs, args := fs ++ #[.func (.yield (w.heap.size + 1)) #[] #[]] }, w1, gid, ⟨fs.toList ++ [.func (.yield (w.heap.size + 1)) #[] #[]] ++ cs.toList⟩, w1, ?_, ?_, fun _ _ => trivial, ?_, (fun x => by cases x), ?_⟩
      · subst hL; exact run_enterLoop_outer fn a.tmps ps assign body
      · have hv : a.eval g = .func (.func gid) fs cs := hv
        have hm : Array.map a.eval #[Operand.const (Value.func (Fn.yield (w.heap.size + 1)) #[] #[])] = #[Value.func (Fn.yield (w.heap.size + 1)) #[] #[]] := by simp [Act.eval]
        simp only [resolve, hv, Deferred.ofValue, Sem.run_pure, hm]
      · show (callFunc gid _).run C.P w1 = _
        simp only [callFunc, Sem.run_bind, run_program, Result.andThen_ok, hf', hn', hb', Bool.false_eq_true, if_false, Sem.run_pure]
        congr 3
        apply Array.ext'
        simp
      · refine callsIn_FW ((hc w1 hw1).mono fun e w6 ⟨v, he, hsr, st, p, hon, hst, hpend⟩ => ?_)
        subst he
        refine ⟨p, w6.putObj (w.heap.size + 1) (.loop { L with state := .exhausted, pending := p }), run_endLoop hon hst, ?_⟩
        have hA' : Agr n { a with defers := [{ target := .collected w.heap.size, args := #[] }] ++ a.defers } ((dKey, .pointer (some ⟨w.heap.size, 0, none⟩)) :: f) :=
          ⟨hA.lim, hA.size, by rw [dfs_dcons, List.map_cons, ← hA.defers]; rfl, fun t v h => hA.val t v (by rwa [Fr.get_dcons] at h)⟩
        have hsr' : SameRest w0 (w6.putObj (w.heap.size + 1) (.loop { L with state := .exhausted, pending := p })) := ⟨(hR.trans (hsr1.trans hsr)).1, (hR.trans (hsr1.trans hsr)).2.1, (hR.trans (hsr1.trans hsr)).2.2⟩
        have hM' : Keeps [dKey] a { a with defers := [{ target := .collected w.heap.size, args := #[] }] ++ a.defers } := ⟨fun _ _ => rfl, fun x => absurd (List.mem_singleton.2 rfl) x⟩
        cases p with
        | none => exact hP.normal _ _ _ hpend hA' hsr' hM'
        | some c =>
          cases c with
          | ret =>
            have hpend : bif hasRet body then _ else False := hpend
            cases hb : hasRet body with
            | false => rw [hb] at hpend; exact hpend.elim
            | true => rw [hb] at hpend; exact wpIn_ret (hP.ret _ _ _ hpend hA' hsr' fun x => absurd (List.mem_singleton.2 rfl) x)
          | exit i => exact wpIn_exit (hP.exit i _ _ _ (exX_elim hpend) hA' hsr' hM')
          | _ => exact hpend.elim
    · exact h.elim
  | _ => intro _ ro _ w0 Q N R f a w h; exact h.elim
end Go.Proofs.YtjdcbblgaoogmaaGreatDoor.Wx
namespace Go.Proofs.YtjdcbblgaoogmaaGreatDoor.Wx
open Go
def RunsAt (P : Program) (a : Act) (o : Oper) (w : World) (v : Value) : Prop := (execOp a.eval o).run P w = .ok (.value v) w
def wantB (full : List Oper) (a : Act) (o : Oper) : Bool := Region.wanted o (yielded full.toArray a.tmps)
def dstV (a : Act) (o : Oper) : Value :=
  match o.dst with
  | some d => a.tmps.getD d undef
  | none => undef
def addD (D : Nat → Bool) (i : Nat) : Nat → Bool := fun j => Nat.beq j i || D j
theorem addD_comm (D : Nat → Bool) (i j : Nat) : addD (addD D i) j = addD (addD D j) i := by
  funext k; simp only [addD]; cases Nat.beq k i <;> cases Nat.beq k j <;> rfl
def Still (C : Ctx) (full : List Oper) (st : List Nat) (D : Nat → Bool) (a : Act) (w : World) : Prop :=
  ∀ j ∈ st, D j = true → ∀ oj, full[j]? = some oj → wantB full a oj = true → RunsAt C.P a oj w (dstV a oj)
/-- the operation i first, and then K -/
def Front (C : Ctx) (full : List Oper) (i : Nat) (st : List Nat) (D : Nat → Bool) (K : Act → World → Prop) (a : Act) (w : World) : Prop :=
  ∃ o, full[i]? = some o ∧
    (if wantB full a o = true then
      (if isQ C o.op = true then ∃ v, RunsAt C.P a o w v ∧ (isReadOp C o.op = false → ∀ w', RunsAt C.P a o w' v) ∧ K (a.put o.dst v) w
       else OpTo C.P a.eval o w fun v w' => Still C full st D a w' ∧ K (a.put o.dst v) w')
    else K (a.put o.dst undef) w)
def SW (C : Ctx) (full : List Oper) : Od → (Nat → Bool) → (Act → World → Prop) → Act → World → Prop
  | .nil, _, N, a, w => N a w
  | .op i st r, D, N, a, w => Front C full i st D (fun a w => SW C full r (addD D i) N a w) a w
  | .alt i st r o, D, N, a, w => Front C full i st D (fun a w => SW C full r (addD D i) N a w) a w ∧ SW C full o D N a w
def predsOf (o : Oper) : List Nat := (o.after.toList.filter fun e => Region.binds .any e).map (·.on)
def mask (acc : Array Nat) : List Nat → Nat
  | [] => 0
  | p :: r => (2 ^ p ||| acc.getD p 0) ||| mask acc r
def masks : List Oper → Array Nat → Array Nat
  | [], acc => acc
  | o :: r, acc => masks r (acc.push (mask acc (predsOf o)))
def noSel (o : Oper) : Bool :=
  match o.op with
  | .select _ _ => false
  | _ => true
def looksB (full : List Oper) (o : Oper) (d : Nat) : Bool := (o.looksAt full.toArray).contains d
def dstLooks (full : List Oper) (x o : Oper) : Bool :=
  match x.dst with
  | some d => looksB full o d
  | none => false
def sameDst (x o : Oper) : Bool :=
  match x.dst, o.dst with
  | some d, some e => Nat.beq d e
  | _, _ => false
/-- x stands ahead of i in the order -/
def pairB (C : Ctx) (full : List Oper) (M : Array Nat) (x i : Nat × List Nat) : Bool :=
  match full[x.1]?, full[i.1]? with
  | some ox, some oi =>
    !(Nat.beq x.1 i.1) && !((predsOf ox).contains i.1) && !(sameDst ox oi) && !(isReadOp C ox.op && dstLooks full oi ox) &&
    ((M.getD i.1 0).testBit x.1 || (isQ C ox.op && !(dstLooks full ox oi) && !(dstLooks full oi ox) && (isQ C oi.op || !(isReadOp C ox.op) || i.2.contains x.1)))
  | _, _ => false
def occ : Od → List (Nat × List Nat)
  | .nil => []
  | .op i st r => (i, st) :: occ r
  | .alt i st r o => (i, st) :: (occ r ++ occ o)
def heads : Od → List Nat
  | .nil => []
  | .op i _ _ => [i]
  | .alt i _ _ o => i :: heads o
def lessR (R : List Nat) (x : Nat) : List Nat := R.filter fun j => !Nat.beq j x
def predsFree (full : List Oper) (x : Nat) (R : List Nat) : Bool :=
  match full[x]? with
  | some o => (predsOf o).all fun p => !R.contains p
  | none => false
def notRead (C : Ctx) (full : List Oper) (x : Nat) : Bool :=
  match full[x]? with
  | some o => !isReadOp C o.op
  | none => false
/-- R: what is left; among alternatives: one of the effects that may come next -/
def okB (C : Ctx) (full : List Oper) (M : Array Nat) : Bool → Od → List Nat → Bool
  | _, .nil, R => R.isEmpty
  | b, .op x st r, R => R.contains x && (predsFree full x R && ((bif b then notRead C full x else (occ r).all (pairB C full M (x, st))) && okB C full M false r (lessR R x)))
  | b, .alt x _ r o, R => R.contains x && (predsFree full x R && (notRead C full x && (okB C full M false r (lessR R x) && (okB C full M true o R && (b || R.all fun y => Nat.beq y x || (heads o).contains y || (M.getD y 0).testBit x || (heads o).any fun e => (M.getD y 0).testBit e)))))
def planB (C : Ctx) (full : List Oper) (L : Od) : Bool :=
  (full.all noSel) && ((full.zipIdx.all fun p => (predsOf p.1).all fun q => Nat.blt q p.2) && ((full.all fun o => !(isReadOp C o.op && (dstLooks full o o || o.dst.isNone))) &&
  (((occ L).all fun x => Nat.blt x.1 full.length && x.2.all fun j => match full[j]? with | some o => isReadOp C o.op | none => false) && okB C full (masks full #[]) false L (List.range full.length))))
theorem dstLooks_false {full : List Oper} {x o : Oper} (h : dstLooks full x o = false) : ∀ d, x.dst = some d → d ∉ o.looksAt full.toArray := by
  intro d hd
  unfold dstLooks at h
  rw [hd] at h
  simpa [looksB] using h
theorem sameDst_false {x o : Oper} (h : sameDst x o = false) : ∀ d, x.dst = some d → o.dst ≠ some d := by
  intro d hd he
  unfold sameDst at h
  rw [hd, he] at h
  simp at h
theorem exec_put {full : List Oper} {x o : Oper} (hs : noSel o = true) (a : Act) (v : Value) (h : dstLooks full x o = false) : execOp (a.put x.dst v).eval o = execOp a.eval o :=
  execOp_put (ops := full.toArray) o (fun cs b e => by simp [noSel, e] at hs) a x.dst v (dstLooks_false h)
theorem want_put {full : List Oper} {x o : Oper} (a : Act) (v : Value) (h : dstLooks full x o = false) : wantB full (a.put x.dst v) o = wantB full a o :=
  wanted_put (ops := full.toArray) o a x.dst v (dstLooks_false h)
theorem dstV_put_ne {x o : Oper} (a : Act) (v : Value) (h : sameDst x o = false) : dstV (a.put x.dst v) o = dstV a o := by
  unfold dstV
  cases ho : o.dst with
  | none => rfl
  | some e =>
    cases hx : x.dst with
    | none => rfl
    | some d =>
      have hne : d ≠ e := fun hh => sameDst_false h d hx (by rw [ho, hh])
      simp [Act.put, Array.getElem?_setIfInBounds_ne hne]
/-- what is known between what was done (D) and what is left (L) -/
def Apart (C : Ctx) (full : List Oper) (D : Nat → Bool) (L : List (Nat × List Nat)) : Prop :=
  ∀ j oj, D j = true → full[j]? = some oj → isReadOp C oj.op = true → ∀ x ∈ L, ∀ ox, full[x.1]? = some ox → dstLooks full ox oj = false ∧ sameDst ox oj = false
/-- x may stand on either side of i -/
structure Swap (C : Ctx) (full : List Oper) (x i : Nat × List Nat) : Prop where
  q : ∀ ox, full[x.1]? = some ox → isQ C ox.op = true
  a : ∀ ox oi, full[x.1]? = some ox → full[i.1]? = some oi → dstLooks full ox oi = false ∧ dstLooks full oi ox = false ∧ sameDst ox oi = false
  s : ∀ ox oi, full[x.1]? = some ox → full[i.1]? = some oi → isQ C oi.op = false → isReadOp C ox.op = true → x.1 ∈ i.2
theorem Still.back {C : Ctx} {full : List Oper} (hsel : ∀ o ∈ full, noSel o = true) {st : List Nat} {D : Nat → Bool} {x : Nat × List Nat} {ox : Oper} (hx : full[x.1]? = some ox) {L : List (Nat × List Nat)} (hap : Apart C full D (x :: L))
    (hrd : ∀ j ∈ st, D j = true → ∀ oj, full[j]? = some oj → isReadOp C oj.op = true) {a : Act} {v : Value} {w : World} (h : Still C full st (addD D x.1) (a.put ox.dst v) w) : Still C full st D a w := by
  intro j hj hD oj hoj hw
  have hr := hrd j hj hD oj hoj
  obtain ⟨h1, h2⟩ := hap j oj hD hoj hr x (by simp) ox hx
  have := h j hj (by simp [addD, hD]) oj hoj (by rw [want_put a v h1]; exact hw)
  rw [dstV_put_ne a v h2] at this
  unfold RunsAt at this ⊢
  rwa [exec_put (hsel oj (List.mem_of_getElem? hoj)) a v h1] at this
theorem OpTo.mono {P : Program} {ρ : Operand → Value} {o : Oper} {w : World} {k k' : Value → World → Prop} (h : OpTo P ρ o w k) (hk : ∀ v w', k v w' → k' v w') : OpTo P ρ o w k' := by
  rcases h with ⟨v, w', h1, h2⟩ | ⟨w', h1, h2⟩ | ⟨g, args, h1, h2⟩ | ⟨l, fn, tmps, assign, body, h1, h2⟩
  · exact .inl ⟨v, w', h1, hk _ _ h2⟩
  · exact .inr (.inl ⟨w', h1, hk _ _ h2⟩)
  · exact .inr (.inr (.inl ⟨g, args, h1, h2.mono fun e w'' ⟨v, he, hv⟩ => ⟨v, he, hk _ _ hv⟩⟩))
  · exact .inr (.inr (.inr ⟨l, fn, tmps, assign, body, h1, h2.mono fun e w'' ⟨v, he, hv⟩ => ⟨v, he, hk _ _ hv⟩⟩))
theorem OpTo.congr {P : Program} {ρ ρ' : Operand → Value} {o : Oper} {w : World} {k : Value → World → Prop} (he : execOp ρ o = execOp ρ' o) (h : OpTo P ρ o w k) : OpTo P ρ' o w k := by
  unfold OpTo at h ⊢; rw [he] at h; exact h
theorem dstV_put_self {n : Nat} {o : Oper} {a : Act} (hs : a.tmps.size = n) (hd : dstOk n o = true) (hn : o.dst.isNone = false) (v : Value) : dstV (a.put o.dst v) o = v := by
  unfold dstV dstOk at *
  cases ho : o.dst with
  | none => rw [ho] at hn; cases hn
  | some d =>
    rw [ho] at hd
    have hlt : d < n := Nat.le_of_ble_eq_true hd
    simp [Act.put, hs, hlt]
theorem size_put (a : Act) (d : Option Nat) (v : Value) : (a.put d v).tmps.size = a.tmps.size := by cases d <;> simp [Act.put]
theorem sameDst_comm (x o : Oper) : sameDst x o = sameDst o x := by
  unfold sameDst
  cases x.dst <;> cases o.dst <;> try rfl
  rename_i d e
  simp only
  cases h : Nat.beq d e with
  | true => have := Nat.eq_of_beq_eq_true h; subst this; exact h.symm
  | false =>
    cases h' : Nat.beq e d with
    | false => rfl
    | true => have := Nat.eq_of_beq_eq_true h'; subst this; rw [Nat.beq_refl] at h; cases h
theorem put_comm' {x o : Oper} (a : Act) (v u : Value) (h : sameDst x o = false) : (a.put x.dst v).put o.dst u = (a.put o.dst u).put x.dst v :=
  Act.put_comm a v u (sameDst_false h)
/-- x, standing ahead of y, leaves what y leans on -/
def Behind (C : Ctx) (full : List Oper) (x y : Nat × List Nat) : Prop :=
  ∀ ox oy, full[x.1]? = some ox → full[y.1]? = some oy → isReadOp C ox.op = true → dstLooks full oy ox = false ∧ sameDst oy ox = false
theorem front_swap {C : Ctx} {full : List Oper} {n : Nat} (hdst : ∀ o ∈ full, dstOk n o = true) (hsel : ∀ o ∈ full, noSel o = true) (hself : ∀ o ∈ full, isReadOp C o.op = true → dstLooks full o o = false ∧ o.dst.isNone = false) (i : Nat) (st : List Nat)
    (hst : ∀ j ∈ st, ∀ oj, full[j]? = some oj → isReadOp C oj.op = true) {x : Nat × List Nat} (hX : Swap C full x (i, st)) {D : Nat → Bool} (hap : Apart C full D [x]) {A : Act → World → Prop} {B : (Nat → Bool) → Act → World → Prop} {a : Act} {w : World} (hsz : a.tmps.size = n)
    (IH : ∀ v, (∃ ox, full[x.1]? = some ox ∧ A (a.put ox.dst v) w) → ∃ ox, full[x.1]? = some ox ∧ Front C full i st (addD D x.1) (B (addD (addD D x.1) i)) (a.put ox.dst v) w)
    (h : Front C full x.1 x.2 D A a w) : Front C full i st D (fun a w => Front C full x.1 x.2 (addD D i) (B (addD (addD D i) x.1)) a w) a w := by
    obtain ⟨ox, hox, h⟩ := h
    have IH : ∀ v, A (a.put ox.dst v) w → Front C full i st (addD D x.1) (B (addD (addD D x.1) i)) (a.put ox.dst v) w := fun v hv => by
      obtain ⟨ox', e, r⟩ := IH v ⟨ox, hox, hv⟩
      rw [hox] at e
      have := Option.some.inj e; subst this; exact r
    have hq := hX.q ox hox
    -- what x does, v its value
    have core : ∀ v : Value, (wantB full a ox = true → RunsAt C.P a ox w v ∧ (isReadOp C ox.op = false → ∀ w', RunsAt C.P a ox w' v)) → (wantB full a ox = false → v = undef) →
        A (a.put ox.dst v) w → Front C full i st D (fun a w => Front C full x.1 x.2 (addD D i) (B (addD (addD D i) x.1)) a w) a w := by
      intro v hv1 hv2 hrest
      obtain ⟨oi, hoi, hf⟩ := IH v hrest
      obtain ⟨a1, a2, a3⟩ := hX.a ox oi hox hoi
      have hsi := hsel oi (List.mem_of_getElem? hoi)
      have hsx := hsel ox (List.mem_of_getElem? hox)
      have hwi := want_put (full := full) a v a1
      have hei := exec_put (full := full) hsi a v a1
      refine ⟨oi, hoi, ?_⟩
      -- x behind i, at a world where it runs as it ran
      have xback : ∀ (u : Value) (w' : World), (wantB full a ox = true → RunsAt C.P a ox w' v) → B (addD (addD D x.1) i) ((a.put ox.dst v).put oi.dst u) w' →
          Front C full x.1 x.2 (addD D i) (B (addD (addD D i) x.1)) (a.put oi.dst u) w' := by
        intro u w' hr hs
        rw [put_comm' a v u a3, addD_comm] at hs
        have hwx := want_put (full := full) a u a2
        refine ⟨ox, hox, ?_⟩
        rw [hwx]
        cases hw : wantB full a ox with
        | true =>
          rw [if_pos rfl, if_pos hq]
          refine ⟨v, ?_, fun hnr w2 => ?_, hs⟩
          · unfold RunsAt; rw [exec_put hsx a u a2]; exact hr hw
          · unfold RunsAt; rw [exec_put hsx a u a2]; exact (hv1 hw).2 hnr w2
        | false =>
          rw [if_neg (by simp)]
          have := hv2 hw
          subst this
          exact hs
      rw [hwi] at hf
      cases hwiB : wantB full a oi with
      | false =>
        rw [hwiB, if_neg (by simp)] at hf
        rw [if_neg (by simp)]
        exact xback undef w (fun hw => (hv1 hw).1) hf
      | true =>
        rw [hwiB, if_pos rfl] at hf
        rw [if_pos rfl]
        cases hqi : isQ C oi.op with
        | true =>
          rw [hqi, if_pos rfl] at hf
          rw [if_pos rfl]
          obtain ⟨u, r1, r2, r3⟩ := hf
          refine ⟨u, ?_, fun hnr w2 => ?_, xback u w (fun hw => (hv1 hw).1) r3⟩
          · unfold RunsAt at r1 ⊢; rwa [hei] at r1
          · have := r2 hnr w2; unfold RunsAt at this ⊢; rwa [hei] at this
        | false =>
          rw [hqi, if_neg (by simp)] at hf
          rw [if_neg (by simp)]
          refine (OpTo.congr hei hf).mono fun u w' ⟨hstill, hk⟩ => ?_
          refine ⟨Still.back hsel hox (L := []) (fun j oj hD hoj hr y hy oy hoy => ?_) (fun j hj _ oj hoj => hst j hj oj hoj) hstill, xback u w' (fun hw => ?_) hk⟩
          · have : y = x := by simpa using hy
            subst this
            exact hap j oj hD hoj hr y (by simp) oy hoy
          · cases hr : isReadOp C ox.op with
            | false => exact (hv1 hw).2 hr w'
            | true =>
              have hmem := hX.s ox oi hox hoi hqi hr
              obtain ⟨hsf, hsn⟩ := hself ox (List.mem_of_getElem? hox) hr
              have := hstill x.1 hmem (by simp [addD, Nat.beq_refl]) ox hox (by rw [want_put a v hsf]; exact hw)
              unfold RunsAt at this ⊢
              rw [exec_put hsx a v hsf] at this
              rw [dstV_put_self hsz (hdst ox (List.mem_of_getElem? hox)) hsn] at this
              exact this
    cases hw : wantB full a ox with
    | true =>
      rw [hw, if_pos rfl, if_pos hq] at h
      obtain ⟨v, r1, r2, r3⟩ := h
      exact core v (fun _ => ⟨r1, r2⟩) (fun hf => by rw [hw] at hf; cases hf) r3
    | false =>
      rw [hw, if_neg (by simp)] at h
      exact core undef (fun hf => by rw [hw] at hf; cases hf) (fun _ => rfl) h
end Go.Proofs.YtjdcbblgaoogmaaGreatDoor.Wx
namespace Go.Proofs.YtjdcbblgaoogmaaGreatDoor.Wx
open Go
theorem mask_bit (acc : Array Nat) : ∀ (ps : List Nat) (j : Nat), (mask acc ps).testBit j = true → ∃ p ∈ ps, p = j ∨ (acc.getD p 0).testBit j = true
  | [], j, h => by simp [mask] at h
  | p :: r, j, h => by
    simp only [mask, Nat.testBit_or, Bool.or_eq_true] at h
    rcases h with (h | h) | h
    · refine ⟨p, by simp, .inl ?_⟩
      by_cases e : p = j
      · exact e
      · rw [Nat.testBit_two_pow_of_ne e] at h; cases h
    · exact ⟨p, by simp, .inr h⟩
    · obtain ⟨q, hq, hj⟩ := mask_bit acc r j h
      exact ⟨q, by simp [hq], hj⟩
theorem masks_prefix : ∀ (l : List Oper) (acc : Array Nat) (p : Nat), p < acc.size → (masks l acc).getD p 0 = acc.getD p 0
  | [], _, _, _ => rfl
  | o :: r, acc, p, h => by
    rw [masks, masks_prefix r _ p (by simp; omega)]
    simp [Array.getElem?_push, show p ≠ acc.size by omega]
theorem masks_at : ∀ (l : List Oper) (acc : Array Nat) (k : Nat) (o : Oper), l[k]? = some o → ∃ acc' : Array Nat, acc'.size = acc.size + k ∧ (masks l acc).getD (acc.size + k) 0 = mask acc' (predsOf o) ∧
    ∀ p, p < acc'.size → acc'.getD p 0 = (masks l acc).getD p 0
  | [], _, _, _, h => by simp at h
  | o :: r, acc, 0, o', h => by
    have e : o = o' := by simpa using h
    subst e
    refine ⟨acc, rfl, ?_, fun p hp => ?_⟩
    · rw [masks, masks_prefix r _ _ (by simp)]
      simp
    · rw [masks, masks_prefix r _ _ (by simp; omega)]
      simp [Array.getElem?_push, show p ≠ acc.size by omega]
  | o :: r, acc, k + 1, o', h => by
    obtain ⟨acc', h1, h2, h3⟩ := masks_at r (acc.push (mask acc (predsOf o))) k o' (by simpa using h)
    refine ⟨acc', by rw [h1]; simp; omega, ?_, fun p hp => by rw [masks]; exact h3 p hp⟩
    rw [masks]
    have e : (acc.push (mask acc (predsOf o))).size + k = acc.size + (k + 1) := by simp; omega
    rw [e] at h2
    exact h2
theorem reach_listed {full : List Oper} (hback : ∀ i o, full[i]? = some o → ∀ p ∈ predsOf o, p < i) {listed : Nat → Bool}
    (hcl : ∀ i o, full[i]? = some o → listed i = true → ∀ p ∈ predsOf o, listed p = true) :
    ∀ (i : Nat) (o : Oper), full[i]? = some o → (∀ p ∈ predsOf o, listed p = true) → ∀ j, ((masks full #[]).getD i 0).testBit j = true → listed j = true := by
  intro i
  induction i using Nat.strongRecOn with
  | _ i ih =>
    intro o ho hp j hj
    obtain ⟨acc', h1, h2, h3⟩ := masks_at full #[] i o ho
    simp only [List.size_toArray, List.length_nil, Nat.zero_add] at h1 h2
    rw [h2] at hj
    obtain ⟨p, hpm, hpj⟩ := mask_bit acc' _ _ hj
    rcases hpj with rfl | hpj
    · exact hp p hpm
    · have hlt := hback i o ho p hpm
      rw [h3 p (by rw [h1]; exact hlt)] at hpj
      have hlen : p < full.length := by
        have := (List.getElem?_eq_some_iff.1 ho).1
        omega
      have hop : full[p]? = some full[p] := List.getElem?_eq_getElem hlen
      exact ih p hlt _ hop (hcl p _ hop (hp p hpm)) j hpj
theorem pairB_spec {C : Ctx} {full : List Oper} {M : Array Nat} {x i : Nat × List Nat} (h : pairB C full M x i = true) :
    ∃ ox oi, full[x.1]? = some ox ∧ full[i.1]? = some oi ∧ x.1 ≠ i.1 ∧ i.1 ∉ predsOf ox ∧ sameDst ox oi = false ∧ (isReadOp C ox.op = true → dstLooks full oi ox = false) ∧
      ((M.getD i.1 0).testBit x.1 = true ∨ (isQ C ox.op = true ∧ dstLooks full ox oi = false ∧ dstLooks full oi ox = false ∧ (isQ C oi.op = true ∨ isReadOp C ox.op = false ∨ x.1 ∈ i.2))) := by
  unfold pairB at h
  cases hx : full[x.1]? with
  | none => rw [hx] at h; cases h
  | some ox =>
    cases hi : full[i.1]? with
    | none => rw [hx, hi] at h; cases h
    | some oi =>
      rw [hx, hi] at h
      simp only [Bool.and_eq_true, Bool.not_eq_true', Bool.or_eq_true] at h
      obtain ⟨⟨⟨⟨h1, h2⟩, h3⟩, h4⟩, h5⟩ := h
      refine ⟨ox, oi, rfl, rfl, fun e => ?_, fun hm => ?_, h3, fun hr => ?_, ?_⟩
      · rw [e, Nat.beq_refl] at h1; cases h1
      · rw [List.contains_iff_mem.2 hm] at h2; cases h2
      · rw [hr, Bool.true_and] at h4; exact h4
      · rcases h5 with h5 | ⟨⟨⟨h5, h6⟩, h7⟩, h8⟩
        · exact .inl h5
        · refine .inr ⟨h5, h6, h7, ?_⟩
          rcases h8 with (h8 | h8) | h8
          · exact .inl h8
          · exact .inr (.inl h8)
          · exact .inr (.inr (List.contains_iff_mem.1 h8))
theorem pair_behind {C : Ctx} {full : List Oper} {M : Array Nat} {x y : Nat × List Nat} (h : pairB C full M x y = true) : Behind C full x y := by
  obtain ⟨ox, oy, h1, h2, h3, h4, h5, h6, h7⟩ := pairB_spec h
  intro ox' oy' e1 e2 hr
  rw [h1] at e1; rw [h2] at e2
  have := Option.some.inj e1; subst this
  have := Option.some.inj e2; subst this
  exact ⟨h6 hr, by rw [sameDst_comm]; exact h5⟩
/-- the order without the operation i -/
def pull (i : Nat) : Od → Od
  | .nil => .nil
  | .op x st r => if Nat.beq x i then r else .op x st (pull i r)
  | .alt x _ r o => if Nat.beq x i then r else pull i o
def stOf (i : Nat) : Od → List Nat
  | .nil => []
  | .op x st r => if Nat.beq x i then st else stOf i r
  | .alt x st _ o => if Nat.beq x i then st else stOf i o
theorem occ_pull (i : Nat) : ∀ (T : Od), ∀ y ∈ occ (pull i T), y ∈ occ T
  | .nil, y, h => h
  | .op x st r, y, h => by
    unfold pull at h
    split at h
    · exact List.mem_cons_of_mem _ h
    · rcases List.mem_cons.1 h with h | h
      · exact List.mem_cons.2 (.inl h)
      · exact List.mem_cons_of_mem _ (occ_pull i r y h)
  | .alt x st r o, y, h => by
    unfold pull at h
    split at h
    · exact List.mem_cons_of_mem _ (List.mem_append.2 (.inl h))
    · exact List.mem_cons_of_mem _ (List.mem_append.2 (.inr (occ_pull i o y h)))
theorem mem_lessR {R : List Nat} {x j : Nat} : j ∈ lessR R x ↔ j ∈ R ∧ j ≠ x := by
  simp only [lessR, List.mem_filter, Bool.not_eq_true', and_congr_right_iff]
  intro _
  constructor
  · intro h e; subst e; rw [Nat.beq_refl] at h; cases h
  · intro h; cases e : Nat.beq j x with
    | false => rfl
    | true => exact absurd (Nat.eq_of_beq_eq_true e) h
theorem lessR_comm (R : List Nat) (x i : Nat) : lessR (lessR R x) i = lessR (lessR R i) x := by
  simp only [lessR, List.filter_filter]
  congr 1; funext k; exact Bool.and_comm _ _
theorem lessR_length {R : List Nat} {x : Nat} (h : x ∈ R) : (lessR R x).length < R.length := by
  unfold lessR
  have h1 := List.length_filter_le (fun j => !Nat.beq j x) R
  rcases Nat.lt_or_ge (R.filter fun j => !Nat.beq j x).length R.length with h2 | h2
  · exact h2
  · exfalso
    have := List.length_filter_eq_length_iff.1 (Nat.le_antisymm h1 h2) x h
    rw [Nat.beq_refl] at this; cases this
theorem beq_false {x i : Nat} (h : x ≠ i) : Nat.beq x i = false := by
  cases e : Nat.beq x i with
  | false => rfl
  | true => exact absurd (Nat.eq_of_beq_eq_true e) h
theorem pull_op_ne {x i : Nat} (h : x ≠ i) (st : List Nat) (r : Od) : pull i (.op x st r) = .op x st (pull i r) := by rw [pull, beq_false h]; rfl
theorem pull_op_eq (i : Nat) (st : List Nat) (r : Od) : pull i (.op i st r) = r := by rw [pull, Nat.beq_refl]; rfl
theorem pull_alt_ne {x i : Nat} (h : x ≠ i) (st : List Nat) (r o : Od) : pull i (.alt x st r o) = pull i o := by rw [pull, beq_false h]; rfl
theorem pull_alt_eq (i : Nat) (st : List Nat) (r o : Od) : pull i (.alt i st r o) = r := by rw [pull, Nat.beq_refl]; rfl
theorem stOf_op_ne {x i : Nat} (h : x ≠ i) (st : List Nat) (r : Od) : stOf i (.op x st r) = stOf i r := by rw [stOf, beq_false h]; rfl
theorem stOf_op_eq (i : Nat) (st : List Nat) (r : Od) : stOf i (.op i st r) = st := by rw [stOf, Nat.beq_refl]; rfl
theorem stOf_alt_ne {x i : Nat} (h : x ≠ i) (st : List Nat) (r o : Od) : stOf i (.alt x st r o) = stOf i o := by rw [stOf, beq_false h]; rfl
theorem stOf_alt_eq (i : Nat) (st : List Nat) (r o : Od) : stOf i (.alt i st r o) = st := by rw [stOf, Nat.beq_refl]; rfl
structure OkOp (C : Ctx) (full : List Oper) (M : Array Nat) (b : Bool) (x : Nat) (st : List Nat) (r : Od) (R : List Nat) : Prop where
  mem : x ∈ R
  free : predsFree full x R = true
  rest : okB C full M false r (lessR R x) = true
  pair : b = false → ∀ p ∈ occ r, pairB C full M (x, st) p = true
  alt : b = true → notRead C full x = true
theorem okB_op {C : Ctx} {full : List Oper} {M : Array Nat} {b : Bool} {x : Nat} {st : List Nat} {r : Od} {R : List Nat} (h : okB C full M b (.op x st r) R = true) : OkOp C full M b x st r R := by
  simp only [okB, Bool.and_eq_true] at h
  obtain ⟨h1, h2, h3, h4⟩ := h
  refine ⟨List.contains_iff_mem.1 h1, h2, h4, fun e => ?_, fun e => ?_⟩
  · subst e; exact List.all_eq_true.1 h3
  · subst e; exact h3
structure OkAlt (C : Ctx) (full : List Oper) (M : Array Nat) (b : Bool) (x : Nat) (r o : Od) (R : List Nat) : Prop where
  mem : x ∈ R
  free : predsFree full x R = true
  quiet : notRead C full x = true
  rest : okB C full M false r (lessR R x) = true
  other : okB C full M true o R = true
  cover : b = false → ∀ y ∈ R, y ∈ heads (.alt x [] r o) ∨ ∃ e ∈ heads (.alt x [] r o), (M.getD y 0).testBit e = true
theorem okB_alt {C : Ctx} {full : List Oper} {M : Array Nat} {b : Bool} {x : Nat} {st : List Nat} {r o : Od} {R : List Nat} (h : okB C full M b (.alt x st r o) R = true) : OkAlt C full M b x r o R := by
  simp only [okB, Bool.and_eq_true] at h
  obtain ⟨h1, h2, h3, h4, h5, h6⟩ := h
  refine ⟨List.contains_iff_mem.1 h1, h2, h3, h4, h5, fun e y hy => ?_⟩
  subst e
  have := List.all_eq_true.1 (by simpa only [Bool.false_or] using h6) y hy
  simp only [Bool.or_eq_true] at this
  rcases this with ((h | h) | h) | h
  · exact .inl (List.mem_cons.2 (.inl (Nat.eq_of_beq_eq_true h)))
  · exact .inl (List.mem_cons_of_mem _ (List.contains_iff_mem.1 h))
  · exact .inr ⟨x, List.mem_cons_self .., h⟩
  · obtain ⟨e, he, ht⟩ := List.any_eq_true.1 h
    exact .inr ⟨e, List.mem_cons_of_mem _ he, ht⟩
theorem heads_mem {C : Ctx} {full : List Oper} {M : Array Nat} : ∀ (T : Od) (b : Bool) (R : List Nat), okB C full M b T R = true → ∀ e ∈ heads T, e ∈ R
  | .nil, _, _, _, e, he => absurd he (by simp [heads])
  | .op x st r, b, R, h, e, he => by
    have : e = x := by simpa [heads] using he
    rw [this]; exact (okB_op h).mem
  | .alt x st r o, b, R, h, e, he => by
    have := okB_alt h
    rcases List.mem_cons.1 he with he | he
    · rw [he]; exact this.mem
    · exact heads_mem o true R this.other e he
/-- what is ready may come first -/
structure Can (full : List Oper) (M : Array Nat) (i : Nat) (b : Bool) (T : Od) (R : List Nat) : Prop where
  mem : i ∈ R
  up : ∀ k, (M.getD i 0).testBit k = true → k ∉ R
  alt : b = true → i ∈ heads T
theorem Can.rest {full : List Oper} {M : Array Nat} {i x : Nat} {st : List Nat} {r : Od} {R : List Nat} (c : Can full M i false (.op x st r) R) (h : x ≠ i) : Can full M i false r (lessR R x) :=
  ⟨mem_lessR.2 ⟨c.mem, fun e => h e.symm⟩, fun k hk hm => c.up k hk (mem_lessR.1 hm).1, fun e => by cases e⟩
theorem Can.other {C : Ctx} {full : List Oper} {M : Array Nat} {i x : Nat} {b : Bool} {st : List Nat} {r o : Od} {R : List Nat} (c : Can full M i b (.alt x st r o) R) (hk : okB C full M b (.alt x st r o) R = true) (h : x ≠ i) : Can full M i true o R := by
  refine ⟨c.mem, c.up, fun _ => ?_⟩
  have hh : i ∈ heads (.alt x st r o) := by
    cases b with
    | true => exact c.alt rfl
    | false =>
      rcases (okB_alt hk).cover rfl i c.mem with h | ⟨e, he, ht⟩
      · exact h
      · exact absurd (heads_mem _ _ _ hk e he) (c.up e ht)
  rcases List.mem_cons.1 hh with hh | hh
  · exact absurd hh.symm h
  · exact hh
theorem Can.eq {full : List Oper} {M : Array Nat} {i x : Nat} {st : List Nat} {r : Od} {R : List Nat} (c : Can full M i true (.op x st r) R) : x = i := by
  have := c.alt rfl
  simp only [heads, List.mem_singleton] at this; exact this.symm
theorem stOf_occ {C : Ctx} {full : List Oper} {M : Array Nat} {i : Nat} : ∀ (T : Od) (b : Bool) (R : List Nat), okB C full M b T R = true → Can full M i b T R → (i, stOf i T) ∈ occ T
  | .nil, b, R, h, c => by
    simp only [okB, List.isEmpty_iff] at h
    have := c.mem; rw [h] at this; exact absurd this (by simp)
  | .op x st r, b, R, h, c => by
    by_cases e : x = i
    · subst e; rw [stOf_op_eq]; exact List.mem_cons_self ..
    · cases b with
      | true => exact absurd c.eq e
      | false => rw [stOf_op_ne e]; exact List.mem_cons_of_mem _ (stOf_occ r false _ (okB_op h).rest (c.rest e))
  | .alt x st r o, b, R, h, c => by
    by_cases e : x = i
    · subst e; rw [stOf_alt_eq]; exact List.mem_cons_self ..
    · rw [stOf_alt_ne e]; exact List.mem_cons_of_mem _ (List.mem_append.2 (.inr (stOf_occ o true R (okB_alt h).other (c.other h e))))
theorem predsFree_less {full : List Oper} {x i : Nat} {R : List Nat} (h : predsFree full x R = true) : predsFree full x (lessR R i) = true := by
  unfold predsFree at h ⊢
  cases ho : full[x]? with
  | none => rw [ho] at h; cases h
  | some o =>
    rw [ho] at h
    refine List.all_eq_true.2 fun p hp => ?_
    have := List.all_eq_true.1 h p hp
    rw [Bool.not_eq_true'] at this ⊢
    cases hc : (lessR R i).contains p with
    | false => rfl
    | true => rw [List.contains_iff_mem.2 (mem_lessR.1 (List.contains_iff_mem.1 hc)).1] at this; cases this
theorem pull_ok {C : Ctx} {full : List Oper} {M : Array Nat} {i : Nat} : ∀ (T : Od) (b : Bool) (R : List Nat), okB C full M b T R = true → Can full M i b T R → okB C full M false (pull i T) (lessR R i) = true
  | .nil, b, R, h, c => by
    simp only [okB, List.isEmpty_iff] at h
    have := c.mem; rw [h] at this; exact absurd this (by simp)
  | .op x st r, b, R, h, c => by
    have k := okB_op h
    by_cases e : x = i
    · subst e; rw [pull_op_eq]; exact k.rest
    · cases b with
      | true => exact absurd c.eq e
      | false =>
        rw [pull_op_ne e]
        simp only [okB, Bool.and_eq_true]
        refine ⟨List.contains_iff_mem.2 (mem_lessR.2 ⟨k.mem, e⟩), predsFree_less k.free, ?_, ?_⟩
        · exact List.all_eq_true.2 fun p hp => k.pair rfl p (occ_pull i r p hp)
        · rw [lessR_comm]; exact pull_ok r false _ k.rest (c.rest e)
  | .alt x st r o, b, R, h, c => by
    by_cases e : x = i
    · subst e; rw [pull_alt_eq]; exact (okB_alt h).rest
    · rw [pull_alt_ne e]; exact pull_ok o true R (okB_alt h).other (c.other h e)
theorem pair_swap {C : Ctx} {full : List Oper} {M : Array Nat} {x i : Nat × List Nat} (h : pairB C full M x i = true) (hno : (M.getD i.1 0).testBit x.1 = false) : Swap C full x i := by
  obtain ⟨ox, oi, g1, g2, g3, g4, g5, g6, g7⟩ := pairB_spec h
  rcases g7 with g7 | ⟨k1, k2, k3, k4⟩
  · rw [hno] at g7; cases g7
  · refine ⟨fun o1 e1 => ?_, fun o1 o2 e1 e2 => ?_, fun o1 o2 e1 e2 hnq hr => ?_⟩
    · rw [g1] at e1; have := Option.some.inj e1; subst this; exact k1
    · rw [g1] at e1; rw [g2] at e2; have := Option.some.inj e1; subst this; have := Option.some.inj e2; subst this; exact ⟨k2, k3, g5⟩
    · rw [g1] at e1; rw [g2] at e2; have := Option.some.inj e1; subst this; have := Option.some.inj e2; subst this
      rcases k4 with k4 | k4 | k4
      · rw [hnq] at k4; cases k4
      · rw [hr] at k4; cases k4
      · exact k4
theorem Can.no {full : List Oper} {M : Array Nat} {i x : Nat} {b : Bool} {T : Od} {R : List Nat} (c : Can full M i b T R) (h : x ∈ R) : (M.getD i 0).testBit x = false := by
  cases e : (M.getD i 0).testBit x with
  | false => rfl
  | true => exact absurd h (c.up x e)
/-- the operation i leaves what the rest leans on -/
theorem pull_behind {C : Ctx} {full : List Oper} {M : Array Nat} {i : Nat} {o : Oper} (ho : full[i]? = some o) (hr : isReadOp C o.op = true) : ∀ (T : Od) (b : Bool) (R : List Nat), okB C full M b T R = true → Can full M i b T R →
    ∀ y ∈ occ (pull i T), ∀ oy, full[y.1]? = some oy → dstLooks full oy o = false ∧ sameDst oy o = false
  | .nil, b, R, h, c, y, hy, oy, hoy => absurd hy (by simp [pull, occ])
  | .op x st r, b, R, h, c, y, hy, oy, hoy => by
    have k := okB_op h
    by_cases e : x = i
    · subst e
      rw [pull_op_eq] at hy
      cases b with
      | true =>
        have := k.alt rfl
        unfold notRead at this
        rw [ho] at this
        simp [hr] at this
      | false => exact pair_behind (k.pair rfl y hy) o oy ho hoy hr
    · cases b with
      | true => exact absurd c.eq e
      | false =>
        rw [pull_op_ne e] at hy
        rcases List.mem_cons.1 hy with hy | hy
        · subst hy
          have hm := stOf_occ r false _ k.rest (c.rest e)
          have sw := pair_swap (k.pair rfl _ hm) (c.no k.mem)
          obtain ⟨k1, _, k3⟩ := sw.a oy o hoy ho
          exact ⟨k1, k3⟩
        · exact pull_behind ho hr r false _ k.rest (c.rest e) y hy oy hoy
  | .alt x st r o', b, R, h, c, y, hy, oy, hoy => by
    by_cases e : x = i
    · subst e
      have := (okB_alt h).quiet
      unfold notRead at this
      rw [ho] at this
      simp [hr] at this
    · rw [pull_alt_ne e] at hy
      exact pull_behind ho hr o' true R (okB_alt h).other (c.other h e) y hy oy hoy
theorem Apart.sub {C : Ctx} {full : List Oper} {D : Nat → Bool} {L L' : List (Nat × List Nat)} (h : Apart C full D L) (hs : ∀ y ∈ L', y ∈ L) : Apart C full D L' :=
  fun j oj hD hoj hr x hx ox hox => h j oj hD hoj hr x (hs x hx) ox hox
theorem front_tree {C : Ctx} {full : List Oper} {n : Nat} {M : Array Nat} (hdst : ∀ o ∈ full, dstOk n o = true) (hsel : ∀ o ∈ full, noSel o = true) (hself : ∀ o ∈ full, isReadOp C o.op = true → dstLooks full o o = false ∧ o.dst.isNone = false) (i : Nat) (N : Act → World → Prop) :
    ∀ (T : Od) (b : Bool) (R : List Nat) (D : Nat → Bool) (a : Act) (w : World), okB C full M b T R = true → Can full M i b T R → (∀ x ∈ occ T, ∀ j ∈ x.2, ∀ oj, full[j]? = some oj → isReadOp C oj.op = true) →
      a.tmps.size = n → Apart C full D (occ T) → SW C full T D N a w → Front C full i (stOf i T) D (fun a w => SW C full (pull i T) (addD D i) N a w) a w
  | .nil, b, R, D, a, w, h, c, _, _, _, _ => by
    simp only [okB, List.isEmpty_iff] at h
    have := c.mem; rw [h] at this; exact absurd this (by simp)
  | .op x st r, b, R, D, a, w, h, c, hst, hsz, hap, hs => by
    have k := okB_op h
    by_cases e : x = i
    · subst e; rw [pull_op_eq, stOf_op_eq]; exact hs
    · cases b with
      | true => exact absurd c.eq e
      | false =>
        rw [pull_op_ne e, stOf_op_ne e]
        have hm := stOf_occ r false _ k.rest (c.rest e)
        have sw := pair_swap (k.pair rfl _ hm) (c.no k.mem)
        refine front_swap hdst hsel hself i (stOf i r) (hst _ (List.mem_cons_of_mem _ hm)) (x := (x, st)) sw (hap.sub fun y hy => by rw [List.mem_singleton.1 hy]; exact List.mem_cons_self ..)
          (A := fun a w => SW C full r (addD D x) N a w) (B := fun D a w => SW C full (pull i r) D N a w) hsz (fun v hv => ?_) hs
        obtain ⟨ox, hox, hv⟩ := hv
        refine ⟨ox, hox, ?_⟩
        refine front_tree hdst hsel hself i N r false _ (addD D x) _ w k.rest (c.rest e) (fun y hy => hst y (List.mem_cons_of_mem _ hy)) (by rw [size_put]; exact hsz) ?_ hv
        intro j oj hD hoj hr y hy oy hoy
        simp only [addD, Bool.or_eq_true] at hD
        rcases hD with hD | hD
        · have e := Nat.eq_of_beq_eq_true hD
          subst e
          exact pair_behind (k.pair rfl y hy) oj oy hoj hoy hr
        · exact hap j oj hD hoj hr y (List.mem_cons_of_mem _ hy) oy hoy
  | .alt x st r o, b, R, D, a, w, h, c, hst, hsz, hap, hs => by
    by_cases e : x = i
    · subst e; rw [pull_alt_eq, stOf_alt_eq]; exact hs.1
    · rw [pull_alt_ne e, stOf_alt_ne e]
      exact front_tree hdst hsel hself i N o true R D a w (okB_alt h).other (c.other h e) (fun y hy => hst y (List.mem_cons_of_mem _ (List.mem_append.2 (.inr hy)))) hsz
        (hap.sub fun y hy => List.mem_cons_of_mem _ (List.mem_append.2 (.inr hy))) hs.2
/-- what the check of an order gives -/
structure Plan (C : Ctx) (full : List Oper) (L : Od) : Prop where
  sel : ∀ o ∈ full, noSel o = true
  back : ∀ i o, full[i]? = some o → ∀ p ∈ predsOf o, p < i
  self : ∀ o ∈ full, isReadOp C o.op = true → dstLooks full o o = false ∧ o.dst.isNone = false
  st : ∀ x ∈ occ L, ∀ j ∈ x.2, ∀ oj, full[j]? = some oj → isReadOp C oj.op = true
  ok : okB C full (masks full #[]) false L (List.range full.length) = true
theorem planB_plan {C : Ctx} {full : List Oper} {L : Od} (h : planB C full L = true) : Plan C full L := by
  simp only [planB, Bool.and_eq_true] at h
  obtain ⟨h1, h2, h3, h5, h6⟩ := h
  refine ⟨List.all_eq_true.1 h1, ?_, ?_, ?_, h6⟩
  · intro i o ho p hp
    have hm : (o, i) ∈ full.zipIdx := by
      rw [List.mem_iff_getElem?]
      exact ⟨i, by simp [List.getElem?_zipIdx, ho]⟩
    have := List.all_eq_true.1 (List.all_eq_true.1 h2 _ hm) p hp
    exact Nat.le_of_ble_eq_true this
  · intro o ho hr
    have := List.all_eq_true.1 h3 o ho
    rw [hr] at this
    simpa using this
  · intro x hx j hj oj hoj
    have := List.all_eq_true.1 h5 x hx
    simp only [Bool.and_eq_true] at this
    have := List.all_eq_true.1 this.2 j hj
    rw [hoj] at this
    exact this
theorem sw_any {C : Ctx} {ro : Option Nat} {full : List Oper} {n : Nat} (hnd : ∀ o ∈ full, isDefer o.op = false) (hdst : ∀ o ∈ full, dstOk n o = true) {L0 : Od} (hp : Plan C full L0) {Q : Exit → Act → World → Prop} {N : Act → World → Prop} (hN : ∀ a w, N a w → Q .normal a w) :
    ∀ (fuel : Nat) (listed : Array Bool) (T : Od) (R : List Nat) (D : Nat → Bool) (a : Act) (w : World), listed.size = full.length → okB C full (masks full #[]) false T R = true → (∀ y ∈ occ T, y ∈ occ L0) →
      (∀ i, i < full.length → (listed.getD i true = false ↔ i ∈ R)) → (∀ i ∈ R, i < full.length) → (∀ i o, full[i]? = some o → listed.getD i false = true → ∀ p ∈ predsOf o, listed.getD p false = true) →
      Apart C full D (occ T) → a.tmps.size = n → R.length ≤ fuel → SW C full T D N a w → wpAnyIn (FW ro) 0 C.P .any full.toArray Q fuel listed a w := by
  have pm : ∀ (o : Oper) (e : Edge), e ∈ o.after → Region.binds .any e = true → e.on ∈ predsOf o := fun o e he hb =>
    List.mem_map.2 ⟨e, List.mem_filter.2 ⟨by simpa using he, hb⟩, rfl⟩
  have mp : ∀ (o : Oper) (p : Nat), p ∈ predsOf o → ∃ e ∈ o.after, Region.binds .any e = true ∧ e.on = p := fun o p h => by
    obtain ⟨e, he, rfl⟩ := List.mem_map.1 h
    obtain ⟨h1, h2⟩ := List.mem_filter.1 he
    exact ⟨e, by simpa using h1, h2, rfl⟩
  have flip : ∀ (listed : Array Bool) (i : Nat), listed.size = full.length → i < full.length → listed.getD i true = listed.getD i false := by
    intro listed i hs hi
    have hlt : i < listed.size := by omega
    rw [Array.getD_eq_getD_getElem?, Array.getD_eq_getD_getElem?, Array.getElem?_eq_getElem hlt]
    rfl
  -- where nothing is ready, nothing is left
  have none_left : ∀ (listed : Array Bool) (T : Od) (R : List Nat), listed.size = full.length → okB C full (masks full #[]) false T R = true → (∀ i, i < full.length → (listed.getD i true = false ↔ i ∈ R)) → (∀ i ∈ R, i < full.length) →
      Region.ready .any full.toArray listed = [] → T = .nil := by
    intro listed T R hs hok hiff hlt0 hr
    have go : ∀ x, x ∈ R → predsFree full x R = true → False := by
      intro x hxm hfree
      have hlt := hlt0 x hxm
      have hox : full[x]? = some full[x] := List.getElem?_eq_getElem hlt
      have hmem : x ∈ Region.ready .any full.toArray listed := by
        refine mem_ready.2 ⟨(hiff x hlt).2 hxm, full[x], by simp, fun e he hb => ?_⟩
        have hpm := pm _ e he hb
        have hplt := hp.back _ _ hox _ hpm
        cases hl : listed.getD e.on false with
        | true => rfl
        | false =>
          exfalso
          rw [← flip listed e.on hs (by omega)] at hl
          have hin := (hiff e.on (by omega)).1 hl
          unfold predsFree at hfree
          rw [hox] at hfree
          have := List.all_eq_true.1 hfree e.on hpm
          rw [List.contains_iff_mem.2 hin] at this; cases this
      rw [hr] at hmem
      exact absurd hmem (by simp)
    cases T with
    | nil => rfl
    | op x st r => exact (go x (okB_op hok).mem (okB_op hok).free).elim
    | alt x st r o => exact (go x (okB_alt hok).mem (okB_alt hok).free).elim
  intro fuel
  induction fuel with
  | zero =>
    intro listed T R D a w hs hok hsub hiff hlt0 hcl hap hsz hlen h
    have hL : R = [] := List.eq_nil_of_length_eq_zero (by omega)
    subst hL
    have hT : T = .nil := by
      cases T with
      | nil => rfl
      | op x st r => exact absurd (okB_op hok).mem (by simp)
      | alt x st r o => exact absurd (okB_alt hok).mem (by simp)
    subst hT
    refine ⟨?_, hN _ _ h⟩
    cases hr : Region.ready .any full.toArray listed with
    | nil => rfl
    | cons j r =>
      exfalso
      have hj : j ∈ Region.ready .any full.toArray listed := by rw [hr]; simp
      obtain ⟨h1, o, h2, _⟩ := mem_ready.1 hj
      have hlt : j < full.length := by
        have := (Array.getElem?_eq_some_iff.1 h2).1
        simpa using this
      exact absurd ((hiff j hlt).1 h1) (by simp)
  | succ fuel ih =>
    intro listed T R D a w hs hok hsub hiff hlt0 hcl hap hsz hlen h
    refine ⟨fun hr => ?_, fun i hi => ?_⟩
    · have := none_left listed T R hs hok hiff hlt0 hr
      subst this
      exact hN _ _ h
    · obtain ⟨h1, o, h2, h3⟩ := mem_ready.1 hi
      have ho : full[i]? = some o := by simpa using h2
      have hlt : i < full.length := (List.getElem?_eq_some_iff.1 ho).1
      have hiR := (hiff i hlt).1 h1
      have hpreds : ∀ p ∈ predsOf o, listed.getD p false = true := fun p hp' => by
        obtain ⟨e, he, hb, rfl⟩ := mp o p hp'
        exact h3 e he hb
      have hreach := reach_listed hp.back (listed := fun k => listed.getD k false) hcl i o ho hpreds
      have can : Can full (masks full #[]) i false T R := by
        refine ⟨hiR, fun k hk hm => ?_, fun e => by cases e⟩
        have h4 := hreach k hk
        have h4 : listed.getD k false = true := h4
        rw [← flip listed k hs (hlt0 k hm), (hiff k (hlt0 k hm)).2 hm] at h4
        cases h4
      obtain ⟨o', ho', hf⟩ := front_tree hdst hp.sel hp.self i N T false R D a w hok can (fun x hx => hp.st x (hsub x hx)) hsz hap h
      rw [ho] at ho'
      have := Option.some.inj ho'
      subst this
      have next : ∀ (v : Value) (w' : World), SW C full (pull i T) (addD D i) N (a.put o.dst v) w' → wpAnyIn (FW ro) 0 C.P .any full.toArray Q fuel (listed.setIfInBounds i true) (a.put o.dst v) w' := by
        intro v w' hsw
        refine ih _ _ (lessR R i) _ _ _ (by simpa using hs) (pull_ok T false R hok can) (fun y hy => hsub y (occ_pull i T y hy)) ?_ (fun j hj => hlt0 j (mem_lessR.1 hj).1) ?_ ?_ (by rw [size_put]; exact hsz) (by have := lessR_length hiR; omega) hsw
        · intro j hj
          by_cases e : i = j
          · subst e
            constructor
            · intro hh
              have : (listed.setIfInBounds i true).getD i true = true := by
                rw [Array.getD_eq_getD_getElem?]
                simp [show i < listed.size by omega]
              rw [this] at hh; cases hh
            · intro hh; exact absurd rfl (mem_lessR.1 hh).2
          · rw [getD_set_ne true e, hiff j hj, mem_lessR]
            exact ⟨fun hh => ⟨hh, fun e' => e e'.symm⟩, fun hh => hh.1⟩
        · intro j oj hoj hl p hp'
          by_cases e : i = j
          · subst e
            rw [ho] at hoj
            have := Option.some.inj hoj
            subst this
            exact getD_set_true (hpreds p hp')
          · rw [getD_set_ne false e] at hl
            exact getD_set_true (hcl j oj hoj hl p hp')
        · intro j oj hD hoj hr x hx' ox hox
          simp only [addD, Bool.or_eq_true] at hD
          rcases hD with hD | hD
          · have e := Nat.eq_of_beq_eq_true hD
            subst e
            exact pull_behind hoj hr T false R hok can x hx' ox hox
          · exact hap j oj hD hoj hr x (occ_pull i T x hx') ox hox
      have hd : ro = none ∨ isDefer o.op = false := .inr (hnd o (List.mem_of_getElem? ho))
      unfold wpOpIn
      simp only [h2]
      split
      · rename_i hw
        have hw' : wantB full a o = true := hw
        rw [hw', if_pos rfl] at hf
        cases hq : isQ C o.op with
        | true =>
          rw [hq, if_pos rfl] at hf
          obtain ⟨v, r1, _, r3⟩ := hf
          exact wpIn_of_OpTo hd (k := fun u w' => u = v ∧ w' = w) (.inl ⟨v, w, r1, rfl, rfl⟩) fun u w' ⟨e1, e2⟩ => by subst e1; subst e2; exact next _ _ r3
        | false =>
          rw [hq, if_neg (by simp)] at hf
          exact wpIn_of_OpTo hd hf fun u w' ⟨_, hk⟩ => next _ _ hk
      · rename_i hw
        have hw' : wantB full a o = false := by simpa [wantB] using hw
        rw [hw', if_neg (by simp)] at hf
        exact ⟨fun _ _ => trivial, next _ _ hf⟩
end Go.Proofs.YtjdcbblgaoogmaaGreatDoor.Wx
namespace Go.Proofs.YtjdcbblgaoogmaaGreatDoor.Wx
open Go
theorem stills_elim {C : Ctx} {full : List Oper} {n : Nat} {a : Act} {f : Fr} (hA : Agr n a f) {h : Heap} {K : Prop} : ∀ {js : List Nat}, stills C full f h js K →
    (∀ j ∈ js, ∀ oj, full[j]? = some oj → wantB full a oj = true → stillX C f h oj) ∧ K
  | [], hk => ⟨fun j hj => absurd hj (by simp), hk⟩
  | j :: r, hk => by
    obtain ⟨o, ho, h1⟩ := onSome_elim (show onSome (full[j]?) _ from hk)
    have h2 := wantX_elim hA h1
    cases hw : wantB full a o with
    | true =>
      rw [show Region.wanted o (yielded full.toArray a.tmps) = true from hw] at h2
      obtain ⟨h3, h4⟩ := h2
      obtain ⟨i1, i2⟩ := stills_elim hA h4
      refine ⟨fun k hk oj hoj hwj => ?_, i2⟩
      rcases List.mem_cons.1 hk with rfl | hk
      · rw [ho] at hoj; have := Option.some.inj hoj; subst this; exact h3
      · exact i1 k hk oj hoj hwj
    | false =>
      rw [show Region.wanted o (yielded full.toArray a.tmps) = false from hw] at h2
      obtain ⟨i1, i2⟩ := stills_elim hA (show stills C full f h r K from h2)
      refine ⟨fun k hk oj hoj hwj => ?_, i2⟩
      rcases List.mem_cons.1 hk with rfl | hk
      · rw [ho] at hoj; have := Option.some.inj hoj; subst this; rw [hw] at hwj; cases hwj
      · exact i1 k hk oj hoj hwj
theorem mkStr_toList (s : ByteArray) : mkStr s.toList = s := by
  rw [ByteArray.toList_eq]; rfl
theorem still_run {C : Ctx} (hC : CtxOk C) {n : Nat} {a : Act} {f : Fr} (hA : Agr n a f) {o : Oper} {w : World} (h : stillX C f w.heap o) : RunsAt C.P a o w (dstV a o) := by
  unfold stillX at h
  cases hd : o.dst with
  | none => rw [hd] at h; exact h.elim
  | some d =>
    rw [hd] at h
    obtain ⟨v, hv, h1⟩ := onSome_elim h
    have hdv : dstV a o = v := by unfold dstV; rw [hd]; exact hA.val d v hv
    rw [hdv]
    unfold RunsAt
    cases ho : o.op with
    | load t x =>
      rw [ho] at h1
      obtain ⟨p, hp, h2⟩ := ptr_elim hA.fit h1
      obtain ⟨hx, h3⟩ := hC.okX h2
      obtain ⟨i, ds, z, hi, hu, hdx, hsz, _, _, _⟩ := hx.get
      have hag := run_isAgg_ok hu w
      have he : execOp a.eval o = (do Pure.pure (.value (← Instr.loadAt t (a.eval x)))) := by simp only [execOp, ho]
      rw [he, hp]
      have key : (loadVar t p).run C.P w = .ok v w := by
        unfold loadVar
        cases hq : isAggD (descSum ds) with
        | true =>
          rw [hq] at hag
          have hty : (C.ti t).d.ty = .agg := by rw [← hdx]; revert hq; cases descSum ds <;> simp [isAggD, D.ty]
          rw [hty] at h3
          obtain ⟨cs, rfl, hl, hc⟩ := onAgg_elim h3
          have hlo := run_loadCells_list (P := C.P) w p cs (fun j v hv => hc j v hv)
          simp only [Sem.run_bind, hag, Result.andThen_ok, if_true, run_sizeOf_ok hi, hsz, ← hl, hlo, Sem.run_pure]
        | false =>
          rw [hq] at hag
          have hty : (C.ti t).d.ty ≠ .agg := by rw [← hdx]; revert hq; cases descSum ds <;> simp [isAggD, D.ty]
          have h4 : cellOf w.heap p = some v := by
            cases hq2 : (C.ti t).d.ty <;> rw [hq2] at h3 hty <;> first | exact h3 | exact (hty rfl).elim
          simp [Sem.run_bind, hag, cell_eq, h4]
      simp only [Instr.loadAt, Instr.sureAddr, Sem.run_bind, Sem.run_pure, Result.andThen_ok, key]
    | convert s t x =>
      rw [ho] at h1
      simp only at h1
      have hs : (C.ti s).d ≠ .other := by intro e; rw [e] at h1; exact h1.elim
      have ht : (C.ti t).d ≠ .other := by intro e; rw [e] at h1; split at h1 <;> first | exact h1.elim | simp at *
      obtain ⟨_, dss, _, _, hus, hds, _⟩ := (hC.okD hs).get
      obtain ⟨_, dt, _, _, hut, hdt, _⟩ := (hC.okD ht).get
      rw [← hds, ← hdt] at h1
      cases dss <;> cases dt <;> try exact h1.elim
      rename_i e
      simp only [descSum] at h1
      cases hb : isU8 (C.ti e).d with
      | false => rw [hb] at h1; exact h1.elim
      | true =>
        rw [hb] at h1
        obtain ⟨al, l, c, hx, h2⟩ := onSlice_elim (onV_elim hA.fit (show onV f x _ from h1))
        obtain ⟨b, hvb, hst⟩ := onStr_elim h2
        have he : (C.ti e).d ≠ .other := by intro e'; rw [e'] at hb; simp [isU8] at hb
        obtain ⟨_, de, _, _, hue, hde, _⟩ := (hC.okD he).get
        rw [← hde] at hb
        have hue' : C.P.underlying e = some (.int .u8) := by
          cases de <;> simp [descSum, isU8] at hb
          rename_i kd
          cases kd <;> simp at hb
          exact hue
        have hr : (convert s t (.slice al l c)).run C.P w = .ok v w := by
          rw [run_convert_bytes_string w s t e al l c hus hue' hut, bytesStr_to hst, mkStr_toList, hvb]
        have he2 : execOp a.eval o = (do Pure.pure (.value (← convert s t (a.eval x)))) := by simp only [execOp, ho]
        rw [he2, hx, Sem.run_bind, hr]
        rfl
    | _ => rw [ho] at h1; exact h1.elim
theorem early_one {C : Ctx} (hC : CtxOk C) {full : List Oper} {n : Nat} (hdst : ∀ o ∈ full, dstOk n o = true) {w0 : World} {a0 : Act} {i : Nat} {st : List Nat} {D : Nat → Bool} {K : Fr → Heap → Prop} {A : Act → World → Prop} {f : Fr} {a : Act} {w : World}
    (h : doX C full i st K f w.heap) (hA : Agr n a f) (hR : SameRest w0 w) (hM : Keeps (dstsOf full) a0 a)
    (hK : ∀ f a w, K f w.heap → Agr n a f → SameRest w0 w → Keeps (dstsOf full) a0 a → A a w) : Front C full i st D A a w := by
    obtain ⟨o, ho, h1⟩ := onSome_elim (show onSome (full[i]?) _ from h)
    have hmem := List.mem_of_getElem? ho
    have hd := hdst o hmem
    have hmo : ∀ d, o.dst = some d → d ∈ dstsOf full := fun d hd => mem_dstsOf hmem hd
    have h2 := wantX_elim hA h1
    refine ⟨o, ho, ?_⟩
    cases hw : wantB full a o with
    | false =>
      rw [show Region.wanted o (yielded full.toArray a.tmps) = false from hw] at h2
      rw [if_neg (by simp)]
      exact hK _ _ _ h2 (hA.put hd undef) hR (hM.put hmo undef)
    | true =>
      rw [show Region.wanted o (yielded full.toArray a.tmps) = true from hw] at h2
      rw [if_pos rfl]
      have h2 : stepX C f o.op o.type (fun v h' => stills C full f h' st (splitX (guards full o) v fun v => K (putD f o.dst v) h')) w.heap := h2
      cases hq : isQ C o.op with
      | true =>
        rw [if_pos rfl]
        obtain ⟨v, r1, r2, r3⟩ := stepQ_to hC hA.fit o hq h2
        exact ⟨v, r1, r3, hK _ _ _ (splitX_elim (stills_elim hA r2).2) (hA.put hd v) hR (hM.put hmo v)⟩
      | false =>
        rw [if_neg (by simp)]
        refine (stepX_to hC hA.fit o h2).mono fun v w' ⟨hr, hk⟩ => ?_
        obtain ⟨k1, k2⟩ := stills_elim hA hk
        exact ⟨fun j hj _ oj hoj hwj => still_run hC hA (k1 j hj oj hoj hwj), hK _ _ _ (splitX_elim k2) (hA.put hd v) (hR.trans hr) (hM.put hmo v)⟩
theorem early_sw {C : Ctx} (hC : CtxOk C) {full : List Oper} {n : Nat} (hdst : ∀ o ∈ full, dstOk n o = true) {w0 : World} {a0 : Act} {N : Fr → Heap → Prop} :
    ∀ (L : Od) (D : Nat → Bool) (f : Fr) (a : Act) (w : World), earlyX C full L N f w.heap → Agr n a f → SameRest w0 w → Keeps (dstsOf full) a0 a →
      SW C full L D (fun a w => ∃ f, N f w.heap ∧ Agr n a f ∧ SameRest w0 w ∧ Keeps (dstsOf full) a0 a) a w
  | .nil, D, f, a, w, h, hA, hR, hM => ⟨f, h, hA, hR, hM⟩
  | .op i st r, D, f, a, w, h, hA, hR, hM => early_one hC hdst h hA hR hM fun f a w h hA hR hM => early_sw hC hdst r _ f a w h hA hR hM
  | .alt i st r o, D, f, a, w, h, hA, hR, hM => ⟨early_one hC hdst h.1 hA hR hM fun f a w h hA hR hM => early_sw hC hdst r _ f a w h hA hR hM, early_sw hC hdst o D f a w h.2 hA hR hM⟩
theorem drawnLaw {C : Ctx} (hC : CtxOk C) (n : Nat) : DrawnLaw C n fun id full => planB C full (C.orders id) := by
  intro ro id ops N R f a w0 w hplan hdst hnd h hA hR hN
  have hp := planB_plan hplan
  refine wpIn_region_any hC.mixed ?_
  have hw : SameRest w0 { w with drawn := w.drawn + 1 } := ⟨hR.1, hR.2.1, hR.2.2⟩
  have hsw := early_sw hC (full := ops.toList) hdst (w0 := w0) (a0 := a) (N := N) (C.orders id) (fun _ => false) f a { w with drawn := w.drawn + 1 } h hA hw (.refl _ _)
  have hlen : (Array.replicate ops.size false).size = ops.toList.length := by simp
  have := sw_any (ro := ro) (n := n) hnd hdst hp (Q := R) (fun a w ⟨f, h1, h2, h3, h4⟩ => hN f a w h1 h2 h3 h4) ops.size (Array.replicate ops.size false) (C.orders id) (List.range ops.toList.length) (fun _ => false) a { w with drawn := w.drawn + 1 } hlen hp.ok (fun _ h => h)
    (fun i hi => by
      have hi' : i < ops.size := by simpa using hi
      constructor
      · exact fun _ => List.mem_range.2 hi
      · exact fun _ => by rw [Array.getD_eq_getD_getElem?]; simp [hi'])
    (fun i hi => List.mem_range.1 hi)
    (fun i o ho hl => by
      exfalso
      rw [Array.getD_eq_getD_getElem?] at hl
      by_cases hi : i < ops.size <;> simp [hi] at hl)
    (fun j oj hD => by cases hD) hA.size ?_ hsw
  · simpa using this
  · simp
theorem argsF_dfs : ∀ (l : List Value) (i : Nat), i + l.length ≤ dKey → dfs (argsF l i) = []
  | [], _, _ => rfl
  | x :: r, i, h => by
    rw [List.length_cons] at h
    rw [argsF, dfs_cons _ _ _ (Nat.ne_of_lt (Nat.lt_of_lt_of_le (by omega) h)), argsF_dfs r (i + 1) (by omega)]
theorem argsF_get : ∀ (l : List Value) (i t : Nat) (v : Value), i + l.length ≤ dKey → Fr.get (argsF l i) t = some v → i ≤ t ∧ l[t - i]? = some v
  | [], _, t, _, _, h => by rw [show argsF [] _ = [] from rfl, Fr.get_nil] at h; cases h
  | x :: r, i, t, v, hlim, h => by
    rw [List.length_cons] at hlim
    rw [argsF, Fr.get_cons _ _ _ _ (Nat.ne_of_lt (Nat.lt_of_lt_of_le (by omega) hlim))] at h
    by_cases e : i = t
    · subst e; rw [if_pos rfl] at h; exact ⟨Nat.le_refl _, by simpa using h⟩
    · rw [if_neg e] at h
      obtain ⟨h1, h2⟩ := argsF_get r (i + 1) t v (by omega) h
      refine ⟨by omega, ?_⟩
      rw [show t - i = (t - (i + 1)) + 1 by omega]
      simpa using h2
def resSem (a : Act) : ResultVar → Sem Value
  | .tmp t => Pure.pure (a.tmps.getD t undef)
  | .cell s t => do loadVar t (← asAddr (a.tmps.getD s undef))
theorem resX_to {C : Ctx} (hC : CtxOk C) {n : Nat} {a : Act} {f : Fr} (hA : Agr n a f) {w : World} : ∀ (rs : List ResultVar) (acc : List Value) (k : List Value → Prop), resX C rs f w.heap acc k →
    ∃ vs, (rs.mapM (resSem a)).run C.P w = .ok vs w ∧ k (acc ++ vs)
  | [], acc, k, h => ⟨[], rfl, by simpa [resX] using h⟩
  | .tmp t :: r, acc, k, h => by
    obtain ⟨v, hv, h1⟩ := onSome_elim (show onSome (Fr.get f t) _ from h)
    obtain ⟨vs, h2, h3⟩ := resX_to hC hA r _ k h1
    refine ⟨v :: vs, ?_, by simpa using h3⟩
    rw [List.mapM_cons]
    simp only [resSem, Sem.run_bind, Sem.run_pure, Result.andThen_ok, hA.val t v hv, h2]
  | .cell s t :: r, acc, k, h => by
    obtain ⟨v, hv, h1⟩ := onSome_elim (show onSome (Fr.get f s) _ from h)
    obtain ⟨q, hq, h2⟩ := onPtr_elim h1
    obtain ⟨p, hp, h3⟩ := onSome_elim h2
    obtain ⟨hx, h4⟩ := hC.okX h3
    obtain ⟨u, hr, h5⟩ := loadVar_to hx h4
    obtain ⟨vs, h6, h7⟩ := resX_to hC hA r _ k h5
    refine ⟨u :: vs, ?_, by simpa using h7⟩
    have hval := hA.val s v hv
    rw [List.mapM_cons]
    simp only [resSem, Sem.run_bind, Sem.run_pure, Result.andThen_ok, hval, hq, hp, asAddr, hr, h6]
def fnOk (C : Ctx) (fn : Func) (c : Code) (nargs : Nat) : Bool :=
  codeOk C fn.ntmps (fun id full => planB C full (C.orders id)) c && Nat.ble nargs fn.ntmps && !(fn.name == "runtime.NumGoroutine") && Nat.ble fn.ntmps dKey
theorem args_agr {m : Nat} {args : List Value} (hle : args.length ≤ m) (hlim : m ≤ dKey) : Agr m { tmps := ⟨args⟩ ++ Array.replicate (m - (⟨args⟩ : Array Value).size) undef, defers := [] } (argsF args 0) := by
  refine ⟨hlim, by simp; omega, by rw [argsF_dfs _ _ (by omega)]; rfl, fun t v hv => ?_⟩
  obtain ⟨_, h5⟩ := argsF_get args 0 t v (by omega) hv
  simp only [Nat.sub_zero] at h5
  have hlt := (List.getElem?_eq_some_iff.1 h5).1
  rw [Array.getD_eq_getD_getElem?, Array.getElem?_append_left (by simpa using hlt)]
  simp [h5]
theorem results_to {C : Ctx} (hC : CtxOk C) {n : Nat} {fn : Func} {a : Act} {f : Fr} (hA : Agr n a f) {w : World} {k : Value → Prop} (h : resX C fn.results.toList f w.heap [] fun vs => k (retV vs)) : ∃ v, (results fn a.tmps).run C.P w = .ok v w ∧ k v := by
  obtain ⟨vs, g1, g2⟩ := resX_to hC hA _ _ _ h
  refine ⟨retV vs, ?_, by simpa using g2⟩
  have hres : results fn a.tmps = (do let vs ← fn.results.mapM (resSem a); Pure.pure (if h : vs.size = 1 then vs[0] else .tuple vs)) := by
    unfold results
    congr 2
  rw [hres, Sem.run_bind, Array.mapM_eq_mapM_toList, Sem.run_map, g1]
  simp only [Result.andThen_ok, Sem.run_pure]
  congr 1
  cases vs with
  | nil => rfl
  | cons v r => cases r <;> rfl
/-- the deferred calls are made, then the results are read -/
theorem leaveX_to {C : Ctx} (hC : CtxOk C) {n : Nat} {fn : Func} {a : Act} {f : Fr} (hA : Agr n a f) {w0 : World} {k : Value → Heap → Prop} : ∀ (ds : List Value) (w : World), leaveX C fn.results.toList f k ds w.heap → SameRest w0 w →
    LeavesInM Fence.wide 0 C.P fn a.tmps (fun e w' => ∃ u, e = .returned u ∧ SameRest w0 w' ∧ k u w'.heap) (ds.map toD) .returning w
  | [], w, h, hR => by
    obtain ⟨v, h1, h2⟩ := results_to hC hA (k := fun v => k v w.heap) h
    exact ⟨v, h1, v, rfl, hR, h2⟩
  | d :: ds, w, h, hR => by
    unfold leaveX at h
    split at h
    · rename_i e; cases e
    · rename_i a' ds' e
      cases e
      exact ⟨(fun x => by cases x), .inl ⟨_, _, rfl, run_takeDeferred h.1, leaveX_to hC hA ds _ h.2 ⟨hR.1, hR.2.1, hR.2.2⟩⟩⟩
    · rename_i v us ds' e
      cases e
      unfold DCallsV at h
      split at h
      · rename_i g fs cs
        obtain ⟨⟨fn', hf', hn', hb'⟩, hc⟩ := h
        refine ⟨(fun x => by cases x), .inr ⟨(fun x => by cases x), .func g, cs, g, ⟨fs.toList ++ us ++ cs.toList⟩, rfl, ?_, fun _ _ => trivial, ?_⟩⟩
        · show (callFunc g _).run C.P w = _
          simp only [callFunc, Sem.run_bind, run_program, Result.andThen_ok, hf', hn', hb', Bool.false_eq_true, if_false, Sem.run_pure]
          congr 2
          apply Array.ext'
          simp [toD]
        · refine (hc w rfl).mono fun e u w' ⟨hu, ⟨v, he⟩, hsr, hk⟩ => ?_
          subst hu
          subst he
          exact leaveX_to hC hA ds w' hk (hR.trans hsr)
      · exact h.elim
    · exact h.elim
theorem fn_to {C : Ctx} (hC : CtxOk C) {g : Nat} {fn : Func} (hf : C.P.funcs[g]? = some fn) {c : Code} (hb : fn.body = some c) {args : List Value} (hok : fnOk C fn c args.length = true) {k : Value → Heap → Prop} {h : Heap}
    (hx : fnX C fn c args k h) : HCalls C.P g args h k := by
  simp only [fnOk, Bool.and_eq_true, Bool.not_eq_true'] at hok
  obtain ⟨⟨⟨h1, h2⟩, h3⟩, h4⟩ := hok
  have hle := Nat.le_of_ble_eq_true h2
  refine ⟨⟨fn, hf, h3, by rw [hb]; rfl⟩, fun w hw => ?_⟩
  subst hw
  refine (callsIn_wide (n := 0)).1 (callsIn_of_wp_marks hf hb trivial ?_)
  have leave : ∀ (f : Fr) (a : Act) (w' : World), leaveX C fn.results.toList f k (dfs f) w'.heap → Agr fn.ntmps a f → SameRest w w' → LeavesInM Fence.wide 0 C.P fn a.tmps (fun e w' => ∃ u, e = .returned u ∧ SameRest w w' ∧ k u w'.heap) a.defers .returning w' := by
    intro f a w' hr hA hR
    rw [hA.defers]
    exact leaveX_to hC hA (dfs f) w' hr hR
  exact wpx_to hC (drawnLaw hC fn.ntmps) c h1 none (.inl rfl) w _ _ _ _ _ w hx (args_agr hle (Nat.le_of_ble_eq_true h4)) (.refl _) ⟨fun f a w' hr hA hR _ => leave f a w' hr hA hR, fun id f a w' hr => hr.elim, fun f a w' hr hA hR _ => leave f a w' hr hA hR, fun _ _ _ _ hr => hr.elim⟩
/-- a function that defers nothing, called as a deferred one -/
def fnOkD (C : Ctx) (fn : Func) (c : Code) (nargs : Nat) : Bool := fnOk C fn c nargs && (modsC c).all fun m => !(Nat.beq m dKey)
theorem fnD_to {C : Ctx} (hC : CtxOk C) {g : Nat} {fn : Func} (hf : C.P.funcs[g]? = some fn) {c : Code} (hb : fn.body = some c) {args : List Value} (hok : fnOkD C fn c args.length = true) {k : Heap → Prop} {h : Heap}
    (hx : fnX C fn c args (fun _ h' => k h') h) : DCalls C.P g args h k := by
  simp only [fnOkD, fnOk, Bool.and_eq_true, Bool.not_eq_true'] at hok
  obtain ⟨⟨⟨⟨h1, h2⟩, h3⟩, h4⟩, h5⟩ := hok
  have hle := Nat.le_of_ble_eq_true h2
  have hkey : dKey ∉ modsC c := fun hm => by
    have := List.all_eq_true.1 h5 _ hm
    simp [Nat.beq_refl] at this
  refine ⟨⟨fn, hf, h3, by rw [hb]; rfl⟩, fun w hw => ?_⟩
  subst hw
  refine (callsDIn_of_wp (R := fun e w' => (∃ v, e = .returned v) ∧ SameRest w w' ∧ k w'.heap) hf hb trivial ?_).mono fun e u w' ⟨h1, h2⟩ => ⟨h1, h2⟩
  have leave : ∀ (f : Fr) (a : Act) (w' : World), leaveX C fn.results.toList f (fun _ h' => k h') (dfs f) w'.heap → Agr fn.ntmps a f → SameRest w w' → a.defers = [] → a.defers = [] ∧ ∃ v, (results fn a.tmps).run C.P w' = .ok v w' ∧ (∃ u, Ending.returned v = .returned u) ∧ SameRest w w' ∧ k w'.heap := by
    intro f a w' hr hA hR hd
    have hdf : dfs f = [] := by
      have := hA.defers
      rw [hd] at this
      exact List.map_eq_nil_iff.1 this.symm
    rw [hdf] at hr
    obtain ⟨v, g1, g2⟩ := results_to hC hA (k := fun _ => k w'.heap) hr
    exact ⟨hd, v, g1, ⟨v, rfl⟩, hR, g2⟩
  exact wpx_to hC (drawnLaw hC fn.ntmps) c h1 none (.inl rfl) w _ _ _ _ _ w hx (args_agr hle (Nat.le_of_ble_eq_true h4)) (.refl _) ⟨fun f a w' hr hA hR hM => leave f a w' hr hA hR (hM.dfr hkey), fun id f a w' hr => hr.elim, fun f a w' hr hA hR hd => leave f a w' hr hA hR (hd hkey), fun _ _ _ _ hr => hr.elim⟩
end Go.Proofs.YtjdcbblgaoogmaaGreatDoor.Wx
namespace Go.Proofs.YtjdcbblgaoogmaaGreatDoor.Hp
open Go Go.Proofs Go.Proofs.YtjdcbblgaoogmaaGreatDoor.Wx
/-- what block b holds -/
def rd (h : Heap) (b : Nat) : List Value :=
  match h[b]? with
  | some (.cells c _ _) => c.toList
  | _ => []
/-- a block of cells, none of them frozen -/
def Own (h : Heap) (b : Nat) : Prop := ∃ c T f, h[b]? = some (.cells c T f) ∧ (f = (0, 0) ∨ c.size ≤ f.1)
/-- h' has come of h; of the blocks of h only those in F may differ -/
structure Fr (F : Nat → Prop) (h h' : Heap) : Prop where
  size : h.size ≤ h'.size
  same : ∀ b, b < h.size → ¬ F b → h'[b]? = h[b]?
def No : Nat → Prop := fun _ => False
def From (n : Nat) : Nat → Prop := fun b => n ≤ b
theorem Fr.rd {F : Nat → Prop} {h h' : Heap} (f : Fr F h h') {b : Nat} (hb : b < h.size) (hF : ¬ F b) : rd h' b = rd h b := by
  simp only [Hp.rd, f.same b hb hF]
theorem Fr.own {F : Nat → Prop} {h h' : Heap} (f : Fr F h h') {b : Nat} (hb : b < h.size) (hF : ¬ F b) (o : Own h b) : Own h' b := by
  obtain ⟨c, T, z, e, k⟩ := o; exact ⟨c, T, z, by rw [f.same b hb hF]; exact e, k⟩
theorem Fr.refl (F : Nat → Prop) (h : Heap) : Fr F h h := ⟨Nat.le_refl _, fun _ _ _ => rfl⟩
theorem Fr.trans {F G : Nat → Prop} {h1 h2 h3 : Heap} (f : Fr F h1 h2) (g : Fr G h2 h3) (hs : ∀ b, b < h1.size → G b → F b) : Fr F h1 h3 :=
  ⟨Nat.le_trans f.size g.size, fun b hb hF => (g.same b (Nat.lt_of_lt_of_le hb f.size) (fun x => hF (hs b hb x))).trans (f.same b hb hF)⟩
theorem Fr.no {F : Nat → Prop} {h1 h2 h3 : Heap} (f : Fr F h1 h2) (g : Fr No h2 h3) : Fr F h1 h3 := f.trans g fun _ _ x => x.elim
theorem Fr.mono {F G : Nat → Prop} {h h' : Heap} (f : Fr F h h') (hs : ∀ b, b < h.size → F b → G b) : Fr G h h' :=
  ⟨f.size, fun b hb hG => f.same b hb fun x => hG (hs b hb x)⟩
theorem Own.lt {h : Heap} {b : Nat} (o : Own h b) : b < h.size := by
  obtain ⟨c, T, z, e, _⟩ := o
  rcases Nat.lt_or_ge b h.size with hl | hl
  · exact hl
  · rw [Array.getElem?_eq_none hl] at e; exact absurd e (by simp)
theorem rd_lt {h : Heap} {b o : Nat} {v : Value} (e : (rd h b)[o]? = some v) : b < h.size := by
  rcases Nat.lt_or_ge b h.size with hl | hl
  · exact hl
  · simp only [rd, Array.getElem?_eq_none hl] at e; simp at e
theorem size_newO (h : Heap) (cs : List Value) (t : Nat) : (newO h cs t).size = h.size + 1 := by simp [newO]
theorem get_newO (h : Heap) (cs : List Value) (t b : Nat) : (newO h cs t)[b]? = if b = h.size then some (.cells ⟨cs⟩ t) else h[b]? := by
  simp [newO, Array.getElem?_push]
theorem rd_newO (h : Heap) (cs : List Value) (t b : Nat) : rd (newO h cs t) b = if b = h.size then cs else rd h b := by
  by_cases hb : b = h.size
  · simp only [rd, get_newO, if_pos hb]
  · simp only [rd, get_newO, if_neg hb]
theorem rd_newO_at (h : Heap) (cs : List Value) (t : Nat) : rd (newO h cs t) h.size = cs := by rw [rd_newO, if_pos rfl]
theorem own_newO_at (h : Heap) (cs : List Value) (t : Nat) : Own (newO h cs t) h.size := ⟨_, _, _, by rw [get_newO, if_pos rfl], .inl rfl⟩
theorem Fr.newO {F : Nat → Prop} {h h' : Heap} (f : Fr F h h') (cs : List Value) (t : Nat) : Fr F h (newO h' cs t) :=
  ⟨by rw [size_newO]; have := f.size; omega, fun b hb hF => by rw [get_newO, if_neg (by have := f.size; omega)]; exact f.same b hb hF⟩
theorem fr_newO {F : Nat → Prop} {h : Heap} (cs : List Value) (t : Nat) : Fr F h (Wx.newO h cs t) := (Fr.refl F h).newO cs t
theorem size_setOf (h : Heap) (a : Addr) (v : Value) : (setOf h a v).size = h.size := by simp [setOf]
theorem get_setOf (h : Heap) (b o : Nat) (v : Value) (c : Nat) : (setOf h ⟨b, o, none⟩ v)[c]? = if c = b then (h[c]?).map (fun x => match x with | .cells cs e f => .cells (cs.setIfInBounds o v) e f | x => x) else h[c]? := by
  simp only [setOf, Array.getElem?_modify, Option.isSome_none, Bool.false_eq_true, if_false]
  by_cases hc : c = b
  · subst hc; simp; rfl
  · simp [hc, Ne.symm hc]
theorem rd_setOf (h : Heap) (b o : Nat) (v : Value) (c : Nat) : rd (setOf h ⟨b, o, none⟩ v) c = if c = b then (rd h b).set o v else rd h c := by
  simp only [rd, get_setOf]
  by_cases hc : c = b
  · subst hc; simp only [if_pos]; cases h[c]? with
    | none => simp
    | some x => cases x <;> simp
  · simp only [if_neg hc]
theorem rd_setOf_at (h : Heap) (b o : Nat) (v : Value) : rd (setOf h ⟨b, o, none⟩ v) b = (rd h b).set o v := by rw [rd_setOf, if_pos rfl]
theorem own_setOf {h : Heap} {b o : Nat} {v : Value} {c : Nat} (w : Own h c) : Own (setOf h ⟨b, o, none⟩ v) c := by
  obtain ⟨cs, T, z, e, k⟩ := w
  by_cases hc : c = b
  · exact ⟨cs.setIfInBounds o v, T, z, by rw [get_setOf, if_pos hc, e]; rfl, by rw [Array.size_setIfInBounds]; exact k⟩
  · exact ⟨cs, T, z, by rw [get_setOf, if_neg hc]; exact e, k⟩
theorem Fr.setOf {F : Nat → Prop} {h h' : Heap} (f : Fr F h h') {b o : Nat} {v : Value} (hb : F b ∨ h.size ≤ b) : Fr F h (setOf h' ⟨b, o, none⟩ v) :=
  ⟨by rw [size_setOf]; exact f.size, fun c hc hF => by
    rw [get_setOf, if_neg (by rintro rfl; rcases hb with hb | hb; exact hF hb; omega)]; exact f.same c hc hF⟩
/-- overwrite from o on -/
def put (xs : List Value) (o : Nat) : List Value → List Value
  | [] => xs
  | v :: r => put (xs.set o v) (o + 1) r
theorem put_length (cs : List Value) : ∀ (xs : List Value) (o : Nat), (put xs o cs).length = xs.length := by
  induction cs with
  | nil => intros; rfl
  | cons v r ih => intro xs o; simp [put, ih]
theorem put_get (cs : List Value) : ∀ (xs : List Value) (o i : Nat), o + cs.length ≤ xs.length → (put xs o cs)[i]? = if o ≤ i ∧ i < o + cs.length then cs[i - o]? else xs[i]? := by
  induction cs with
  | nil => intro xs o i h; rw [if_neg (by rw [List.length_nil]; omega)]; rfl
  | cons v r ih =>
    intro xs o i h
    simp only [List.length_cons] at h
    simp only [put]
    rw [ih (xs.set o v) (o + 1) i (by simp; omega)]
    by_cases h1 : i = o
    · subst h1
      rw [if_neg (by omega), if_pos ⟨Nat.le_refl _, by rw [List.length_cons]; omega⟩, List.getElem?_set, if_pos rfl, if_pos (by omega), Nat.sub_self]; rfl
    · by_cases h2 : o + 1 ≤ i ∧ i < o + 1 + r.length
      · rw [if_pos h2, if_pos ⟨by omega, by rw [List.length_cons]; omega⟩]
        obtain ⟨j, rfl⟩ : ∃ j, i = o + 1 + j := ⟨i - (o + 1), by omega⟩
        rw [show o + 1 + j - o = j + 1 by omega, show o + 1 + j - (o + 1) = j by omega]; rfl
      · rw [if_neg h2, if_neg (by simp only [List.length_cons]; omega), List.getElem?_set_ne (by omega)]
theorem put_eq (cs xs : List Value) (o : Nat) (h : o + cs.length ≤ xs.length) : put xs o cs = xs.take o ++ cs ++ xs.drop (o + cs.length) := by
  apply List.ext_getElem?
  intro i
  rw [put_get _ _ _ _ h]
  by_cases h1 : i < o
  · rw [if_neg (by omega), List.append_assoc, List.getElem?_append_left (by rw [List.length_take]; omega), List.getElem?_take_of_lt h1]
  · by_cases h2 : i < o + cs.length
    · rw [if_pos ⟨by omega, h2⟩, List.getElem?_append_left (by simp; omega), List.getElem?_append_right (by rw [List.length_take]; omega), List.length_take, Nat.min_eq_left (by omega)]
    · rw [if_neg (by omega), List.getElem?_append_right (by simp; omega), List.getElem?_drop]
      congr 1; simp; omega
theorem put_all (cs xs : List Value) (h : cs.length = xs.length) : put xs 0 cs = cs := by rw [put_eq _ _ _ (by omega)]; simp [h]
theorem add_mk (b o n : Nat) : Addr.add ⟨b, o, none⟩ n = ⟨b, o + n, none⟩ := by
  by_cases hn : n = 0
  · subst hn; rfl
  · simp [Addr.add, hn]
theorem size_setRow (a : Addr) : ∀ (cs : List Value) (h : Heap) (i : Nat), (setRow h a cs i).size = h.size := by
  intro cs; induction cs with
  | nil => intros; rfl
  | cons v r ih => intro h i; simp only [setRow, ih, size_setOf]
theorem rd_setRow (b o : Nat) : ∀ (cs : List Value) (h : Heap) (i c : Nat), rd (setRow h ⟨b, o, none⟩ cs i) c = if c = b then put (rd h b) (o + i) cs else rd h c := by
  intro cs; induction cs with
  | nil => intro h i c; simp only [setRow, put]; split <;> simp_all
  | cons v r ih =>
    intro h i c
    simp only [setRow, add_mk, ih, rd_setOf, put]
    by_cases hc : c = b
    · subst hc; simp [Nat.add_assoc]
    · simp [hc]
theorem rd_setRow_at (b o : Nat) (cs : List Value) (h : Heap) (i : Nat) : rd (setRow h ⟨b, o, none⟩ cs i) b = put (rd h b) (o + i) cs := by rw [rd_setRow, if_pos rfl]
theorem own_setRow {b o c : Nat} : ∀ {cs : List Value} {h : Heap} {i : Nat}, Own h c → Own (setRow h ⟨b, o, none⟩ cs i) c := by
  intro cs; induction cs with
  | nil => intro h i w; exact w
  | cons v r ih => intro h i w; simp only [setRow, add_mk]; exact ih (own_setOf w)
theorem Fr.setRow {F : Nat → Prop} {h : Heap} {b o : Nat} (hb : F b ∨ h.size ≤ b) : ∀ {cs : List Value} {h' : Heap} {i : Nat}, Fr F h h' → Fr F h (setRow h' ⟨b, o, none⟩ cs i) := by
  intro cs; induction cs with
  | nil => intro h' i f; exact f
  | cons v r ih => intro h' i f; simp only [Wx.setRow, add_mk]; exact ih (f.setOf hb)
theorem cellOf_rd (h : Heap) (b o : Nat) : cellOf h ⟨b, o, none⟩ = (rd h b)[o]? := by
  simp only [cellOf, rd]; cases h[b]? with
  | none => simp
  | some x => cases x <;> simp
theorem cellOf_some {h : Heap} {a : Addr} {v : Value} (e : cellOf h a = some v) : a.spot = none ∧ (rd h a.block)[a.off]? = some v := by
  obtain ⟨b, o, s⟩ := a
  cases s with
  | none => exact ⟨rfl, by rw [cellOf_rd] at e; exact e⟩
  | some s =>
    exfalso; revert e
    simp only [cellOf]; cases h[b]? with
    | none => simp
    | some x => cases x <;> simp
theorem wr_rd {h : Heap} {b o : Nat} (w : Own h b) (hl : o < (rd h b).length) : Wr h ⟨b, o, none⟩ := by
  refine ⟨⟨(rd h b)[o], by rw [cellOf_rd]; simp [hl]⟩, ?_⟩
  obtain ⟨c, T, z, e, k⟩ := w
  have hc : o < c.size := by simpa [rd, e] using hl
  rcases k with rfl | k
  · simp [frozenOf, e]
  · obtain ⟨lo, hi⟩ := z
    have k : c.size ≤ lo := k
    simp [frozenOf, e]; omega
theorem wrN_rd {h : Heap} {b o n : Nat} (w : Own h b) (hl : o + n ≤ (rd h b).length) : WrN h ⟨b, o, none⟩ n := by
  intro i hi; rw [add_mk]; exact wr_rd w (by omega)
theorem stRow_rd {h : Heap} {b o : Nat} {cs : List Value} {n : Nat} (w : Own h b) (hn : cs.length = n) (h1 : ∀ v ∈ cs, v.oneCell' = true) (hl : o + n ≤ (rd h b).length) : StRow h ⟨b, o, none⟩ cs n :=
  ⟨hn, h1, wrN_rd w hl⟩
theorem cells_rd {h : Heap} {b o : Nat} {xs : List Value} (e : ((rd h b).drop o).take xs.length = xs) : Cells h ⟨b, o, none⟩ xs := by
  intro i v hv
  rw [add_mk, cellOf_rd]
  rw [← e, List.getElem?_take] at hv
  split at hv
  · rw [List.getElem?_drop] at hv; exact hv
  · exact absurd hv (by simp)
/-- the cells at a place stay -/
theorem Cells.fr {F : Nat → Prop} {h h' : Heap} (f : Fr F h h') {a : Addr} {xs : List Value} (c : Cells h a xs) (hF : ¬ F a.block) : Cells h' a xs := by
  intro i v hv
  have e := c i v hv
  obtain ⟨h1, h2⟩ := cellOf_some e
  have hb : (a.add i).block = a.block := by unfold Addr.add; split <;> rfl
  have hl := rd_lt h2
  rw [hb] at hl
  have : cellOf h' (a.add i) = cellOf h (a.add i) := by simp only [cellOf, hb, f.same _ hl hF]
  rw [this]; exact e
theorem SlCells.fr {F : Nat → Prop} {h h' : Heap} (f : Fr F h h') {a : Option Addr} {xs : List Value} (c : SlCells h a xs) (hF : ∀ p, a = some p → ¬ F p.block) : SlCells h' a xs := by
  cases a with
  | none => exact c
  | some p => exact Cells.fr f c (hF p rfl)
theorem StrAt.fr {F : Nat → Prop} {h h' : Heap} (f : Fr F h h') {a : Option Addr} {l : Nat} {bs : List UInt8} (c : StrAt h a l bs) (hF : ∀ p, a = some p → ¬ F p.block) : StrAt h' a l bs :=
  ⟨c.1, SlCells.fr f c.2 hF⟩
theorem Cells.take {h : Heap} {a : Addr} {xs : List Value} (c : Cells h a xs) (n : Nat) : Cells h a (xs.take n) := by
  intro i v hv; rw [List.getElem?_take] at hv; split at hv
  · exact c i v hv
  · exact absurd hv (by simp)
theorem Cells.nil (h : Heap) (a : Addr) : Cells h a [] := by intro i v hv; simp at hv
theorem Cells.drop {h : Heap} {a : Addr} {xs : List Value} (c : Cells h a xs) (n : Nat) : Cells h (a.add n) (xs.drop n) := by
  intro i v hv
  rw [List.getElem?_drop] at hv
  have := c (n + i) v hv
  by_cases hi : i = 0
  · subst hi; rw [Addr.add_zero]; exact this
  · by_cases hn : n = 0
    · subst hn; rw [Addr.add_zero]; simpa using this
    · rw [Addr.add_add]; exact this
theorem SlCells.take {h : Heap} {a : Option Addr} {xs : List Value} (c : SlCells h a xs) (n : Nat) : SlCells h a (xs.take n) := by
  cases a with
  | none => have c : xs = [] := c; subst c; simp [SlCells]
  | some p => exact Cells.take c n
theorem SlCells.drop {h : Heap} {a : Option Addr} {xs : List Value} (c : SlCells h a xs) (n : Nat) : SlCells h (a.map (·.add n)) (xs.drop n) := by
  cases a with
  | none => have c : xs = [] := c; subst c; simp [SlCells]
  | some p => exact Cells.drop c n
theorem StrAt.take {h : Heap} {a : Option Addr} {l : Nat} {bs : List UInt8} (c : StrAt h a l bs) {n : Nat} (hn : n ≤ l) : StrAt h a n (bs.take n) :=
  ⟨by rw [List.length_take, c.1]; omega, by rw [List.map_take]; exact SlCells.take c.2 n⟩
theorem StrAt.drop {h : Heap} {a : Option Addr} {l : Nat} {bs : List UInt8} (c : StrAt h a l bs) (n : Nat) : StrAt h (a.map (·.add n)) (l - n) (bs.drop n) :=
  ⟨by rw [List.length_drop, c.1], by rw [List.map_drop]; exact SlCells.drop c.2 n⟩
theorem StrAt.nil (h : Heap) (a : Option Addr) : StrAt h a 0 [] := ⟨rfl, by cases a with | none => rfl | some p => exact Cells.nil h p⟩
theorem bv_one (bs : List UInt8) : ∀ v ∈ bs.map bv, v.oneCell' = true := by
  intro v hv; obtain ⟨b, _, rfl⟩ := List.mem_map.mp hv; rfl
theorem toList_mkStr (bs : List UInt8) : ByteArray.toList (mkStr bs) = bs := by
  rw [mkStr, show (⟨⟨bs⟩⟩ : ByteArray) = ⟨bs.toArray⟩ from rfl]
  simp
end Go.Proofs.YtjdcbblgaoogmaaGreatDoor.Hp
namespace Go.Proofs.YtjdcbblgaoogmaaGreatDoor.Hp
open Go Go.Proofs Go.Proofs.YtjdcbblgaoogmaaGreatDoor.Wx
theorem wrap_i64 {n : Int} (h1 : -9223372036854775808 ≤ n) (h2 : n ≤ 9223372036854775807) : IntKind.wrap .i64 n = n := by
  simp only [IntKind.wrap, IntKind.bits, IntKind.signed, Bool.true_and, ge_iff_le, decide_eq_true_eq, Nat.reduceSub, Int.reducePow]
  split <;> omega
theorem HCalls.mono {P : Program} {g : Nat} {args : List Value} {h : Heap} {k k' : Value → Heap → Prop} (H : HCalls P g args h k) (hk : ∀ v h', k v h' → k' v h') : HCalls P g args h k' := by
  obtain ⟨c, H⟩ := H
  refine ⟨c, fun w hw => (H w hw).mono fun e w' ⟨v, e1, e2, e3⟩ => ⟨v, e1, e2, hk v _ e3⟩⟩
/-- l elements of ec cells each: xs, with room for c, in a block of F -/
def Sl (h : Heap) (ec : Nat) (a : Option Addr) (l c : Nat) (xs : List Value) (F : Nat → Prop) : Prop :=
  xs.length = l * ec ∧ match a with
    | none => l = 0 ∧ c = 0
    | some p => p.spot = none ∧ F p.block ∧ Own h p.block ∧ l ≤ c ∧ ((rd h p.block).drop p.off).take xs.length = xs ∧ p.off + c * ec ≤ (rd h p.block).length
theorem Sl.nil (h : Heap) (ec : Nat) (F : Nat → Prop) : Sl h ec none 0 0 [] F := ⟨by simp, rfl, rfl⟩
theorem Sl.mono {h : Heap} {ec : Nat} {a : Option Addr} {l c : Nat} {xs : List Value} {F G : Nat → Prop} (s : Sl h ec a l c xs F) (hs : ∀ b, F b → G b) : Sl h ec a l c xs G := by
  obtain ⟨h1, h2⟩ := s
  refine ⟨h1, ?_⟩
  cases a with
  | none => exact h2
  | some p => obtain ⟨a1, a2, a3⟩ := h2; exact ⟨a1, hs _ a2, a3⟩
theorem Sl.fr {h h' : Heap} {ec : Nat} {a : Option Addr} {l c : Nat} {xs : List Value} {F G : Nat → Prop} (f : Fr G h h') (s : Sl h ec a l c xs F) (hs : ∀ b, b < h.size → F b → ¬ G b) : Sl h' ec a l c xs F := by
  obtain ⟨h1, h2⟩ := s
  refine ⟨h1, ?_⟩
  cases a with
  | none => exact h2
  | some p =>
    obtain ⟨a1, a2, a3, a4, a5, a6⟩ := h2
    have hG := hs _ a3.lt a2
    refine ⟨a1, a2, f.own a3.lt hG a3, a4, ?_, ?_⟩
    · rw [f.rd a3.lt hG]; exact a5
    · rw [f.rd a3.lt hG]; exact a6
theorem Sl.cells {h : Heap} {ec : Nat} {a : Option Addr} {l c : Nat} {xs : List Value} {F : Nat → Prop} (s : Sl h ec a l c xs F) : SlCells h a xs := by
  obtain ⟨h1, h2⟩ := s
  cases a with
  | none => obtain ⟨rfl, _⟩ := h2; rw [Nat.zero_mul] at h1; exact List.length_eq_zero_iff.mp h1
  | some p =>
    obtain ⟨b, o, s⟩ := p
    obtain ⟨a1, a2, a3, a4, a5, a6⟩ := h2
    have a1 : s = none := a1
    subst a1
    exact cells_rd a5
theorem Sl.str {h : Heap} {a : Option Addr} {l c : Nat} {bs : List UInt8} {F : Nat → Prop} (s : Sl h 1 a l c (bs.map bv) F) : StrAt h a l bs :=
  ⟨by have := s.1; rw [List.length_map] at this; omega, s.cells⟩
theorem Sl.le {h : Heap} {ec : Nat} {a : Option Addr} {l c : Nat} {xs : List Value} {F : Nat → Prop} (s : Sl h ec a l c xs F) : l ≤ c := by
  obtain ⟨_, h2⟩ := s
  cases a with
  | none => omega
  | some p => exact h2.2.2.2.1
/-- a new block -/
theorem Sl.new (h : Heap) (ec t l c : Nat) (xs zs : List Value) (F : Nat → Prop) (hF : F h.size) (hx : xs.length = l * ec) (hl : l ≤ c) (hz : zs.length = (c - l) * ec) :
    Sl (newO h (xs ++ zs) t) ec (some ⟨h.size, 0, none⟩) l c xs F := by
  refine ⟨hx, rfl, hF, own_newO_at _ _ _, hl, ?_, ?_⟩
  · simp only [rd_newO_at, List.drop_zero, List.take_left]
  · simp only [rd_newO_at, List.length_append, hx, hz, Nat.zero_add]
    rw [← Nat.add_mul]; exact Nat.mul_le_mul_right _ (by omega)
theorem take_put (X new : List Value) (o m : Nat) (h : o + m + new.length ≤ X.length) : ((put X (o + m) new).drop o).take (m + new.length) = (X.drop o).take m ++ new := by
  apply List.ext_getElem?
  intro i
  rw [List.getElem?_take]
  have hl : ((X.drop o).take m).length = m := by rw [List.length_take, List.length_drop]; omega
  by_cases h1 : i < m
  · rw [if_pos (by omega), List.getElem?_append_left (by omega), List.getElem?_drop, put_get _ _ _ _ h, if_neg (by omega), List.getElem?_take, if_pos h1, List.getElem?_drop]
  · by_cases h2 : i < m + new.length
    · rw [if_pos h2, List.getElem?_append_right (by omega), hl, List.getElem?_drop, put_get _ _ _ _ h, if_pos (by omega)]
      congr 1; omega
    · rw [if_neg h2, List.getElem?_eq_none (by rw [List.length_append]; omega)]
/-- append to a row of one's own -/
theorem append_own {elem : TI} {e : Nat} {a : Option Addr} {l c n : Nat} {xs new : List Value} {h : Heap} {F : Nat → Prop} {k : Option Addr → Nat → Nat → Heap → Prop}
    (s : Sl h elem.cells a l c xs F) (hn : new.length = n * elem.cells) (hz : elem.zero.length = elem.cells) (hb : (l + n) * elem.bytes ≤ 140737488355328) (hb' : l + n ≤ 140737488355328)
    (hk : ∀ a' c' h', Fr F h h' → Sl h' elem.cells a' (l + n) c' (xs ++ new) (fun b => F b ∨ h.size ≤ b) → k a' (l + n) c' h') :
    AppendP elem e a l c n new h k := by
  refine ⟨xs, s.1, s.cells, hb, hb', fun hc => ?_, fun hc cap hcap => ?_⟩
  · obtain ⟨h1, h2⟩ := s
    cases a with
    | none =>
      obtain ⟨rfl, rfl⟩ := h2
      have : n = 0 := by omega
      subst this
      rw [Nat.zero_mul] at hn h1
      have e1 := List.length_eq_zero_iff.mp hn
      have e2 := List.length_eq_zero_iff.mp h1
      subst e1; subst e2
      exact ⟨by simp [WrS], hk none 0 _ (Fr.refl _ _) (Sl.nil _ _ _)⟩
    | some p =>
      obtain ⟨b, o, sp⟩ := p
      obtain ⟨a1, a2, a3, a4, a5, a6⟩ := h2
      have a1 : sp = none := a1
      subst a1
      simp only at a2 a3 a5 a6
      have hm : (l + n) * elem.cells ≤ c * elem.cells := Nat.mul_le_mul_right _ hc
      rw [Nat.add_mul] at hm
      refine ⟨?_, hk (some ⟨b, o, none⟩) c _ ?_ ?_⟩
      · simp only [WrS, add_mk]; exact wrN_rd a3 (by omega)
      · simp only [setS, add_mk]; exact (Fr.refl F h).setRow (Or.inl a2)
      · simp only [setS, add_mk]
        refine ⟨by rw [List.length_append, h1, hn, Nat.add_mul], rfl, Or.inl a2, own_setRow a3, hc, ?_, ?_⟩
        · simp only [rd_setRow_at, Nat.add_zero, List.length_append, ← h1] at a5 ⊢
          rw [take_put _ _ _ _ (by rw [h1]; omega), a5]
        · simp only [rd_setRow_at, put_length]; exact a6
  · have hf : Fr F h (newO h (xs ++ new ++ repCells elem.zero (cap - (l + n))) e) := fr_newO _ _
    refine hk _ _ _ hf (Sl.new h elem.cells e (l + n) cap (xs ++ new) _ _ (Or.inr (Nat.le_refl _)) (by rw [List.length_append, s.1, hn, Nat.add_mul]) hcap ?_)
    rw [length_repCells, hz]
/-- append to nothing: a row of one's own -/
theorem append_nil {elem : TI} {e n : Nat} {new : List Value} {h : Heap} {k : Option Addr → Nat → Nat → Heap → Prop}
    (hn : new.length = n * elem.cells) (hz : elem.zero.length = elem.cells) (hb : n * elem.bytes ≤ 140737488355328) (hb' : n ≤ 140737488355328)
    (hk : ∀ a' c' h', Fr No h h' → Sl h' elem.cells a' n c' new (From h.size) → k a' n c' h') :
    AppendP elem e none 0 0 n new h k := by
  refine append_own (Sl.nil h _ No) hn hz (by simpa using hb) (by simpa using hb') fun a' c' h' f s => ?_
  simp only [Nat.zero_add, List.nil_append] at s ⊢
  exact hk a' c' h' f (s.mono fun b hb => hb.elim (fun x => x.elim) id)
theorem StrAt.src {h : Heap} {a : Option Addr} {l : Nat} {bs : List UInt8} (c : StrAt h a l bs) : (bs.map bv).length = l * 1 ∧ SlCells h a (bs.map bv) ∧ ∀ v ∈ bs.map bv, v.oneCell' = true :=
  ⟨by rw [List.length_map, c.1, Nat.mul_one], c.2, bv_one bs⟩
end Go.Proofs.YtjdcbblgaoogmaaGreatDoor.Hp
namespace Go.Proofs.YtjdcbblgaoogmaaGreatDoor.Wx
open Go
/-- a new block -/
def New (cs : List Value) (t : Nat) (h : Heap) (k : Heap → Prop) : Prop := k (newO h cs t)
/-- a new block, filled with cs -/
def NewRow (z : List Value) (t : Nat) (cs : List Value) (n : Nat) (h : Heap) (k : Heap → Prop) : Prop :=
  StRow (newO h z t) ⟨h.size, 0, none⟩ cs n ∧ k (setRow (newO h z t) ⟨h.size, 0, none⟩ cs 0)
/-- a text's bytes: a new block -/
def NewS (s : ByteArray) (t : Nat) (h : Heap) (k : Nat → Heap → Prop) : Prop := ∀ cap : Nat, s.size ≤ cap → k cap (newS h (s.toList.map bv ++ List.replicate (cap - s.size) (bv 0)) t)
/-- a block is marked as come of a text -/
def MarkAt (p : Addr) (h : Heap) (k : Heap → Prop) : Prop := k (markH h p.block)
/-- a new map; a walk along a text begins -/
def NewM (h : Heap) (k : Heap → Prop) : Prop := k (newM h)
/-- one cell is written -/
def Put (p : Addr) (v : Value) (h : Heap) (k : Heap → Prop) : Prop := Wr h p ∧ k (setOf h p v)
/-- a row of cells is written -/
def PutRow (p : Addr) (cs : List Value) (n : Nat) (h : Heap) (k : Heap → Prop) : Prop := StRow h p cs n ∧ k (setRow h p cs 0)
/-- the record of a loop over a function is written; the mark of one is taken up -/
def SetL (h : Heap) (l : Nat) (R : Loop) (st : LoopState) (p : Option Code) (k : Heap → Prop) : Prop := k (setLoop h l R st p)
def EndD (b : Nat) (h : Heap) (k : Heap → Prop) : Prop := h[b]? = some (.deferred (some [])) ∧ k (endD h b)
end Go.Proofs.YtjdcbblgaoogmaaGreatDoor.Wx
namespace Go.Proofs.YtjdcbblgaoogmaaGreatDoor.Hp
open Go Go.Proofs Go.Proofs.YtjdcbblgaoogmaaGreatDoor.Wx
def On (col : Nat → Nat) (k : Nat) : Nat → Prop := fun b => col b = k
/-- the blocks from n on get colour k -/
def upd (col : Nat → Nat) (n k : Nat) : Nat → Nat := fun b => if b < n then col b else k
/-- the same colours below n -/
def Ag (n : Nat) (col col' : Nat → Nat) : Prop := ∀ b, b < n → col' b = col b
/-- no block has a colour of m .. m+5 -/
def Free (h : Heap) (col : Nat → Nat) (m : Nat) : Prop := ∀ b, b < h.size → m ≤ col b → col b ≤ m + 5 → False
theorem Free.new {h : Heap} {col col' : Nat → Nat} {m b : Nat} (f : Free h col m) (g : Ag h.size col col') (h1 : m ≤ col' b) (h2 : col' b ≤ m + 5) : h.size ≤ b := by
  rcases Nat.lt_or_ge b h.size with hb | hb
  · rw [g b hb] at h1 h2; exact (f b hb h1 h2).elim
  · exact hb
theorem ag_upd (col : Nat → Nat) (n k : Nat) : Ag n col (upd col n k) := fun b hb => if_pos hb
theorem upd_ge {col : Nat → Nat} {n k b : Nat} (h : n ≤ b) : upd col n k b = k := if_neg (by omega)
theorem upd_lt {col : Nat → Nat} {n k b : Nat} (h : b < n) : upd col n k b = col b := if_pos h
theorem Ag.refl (n : Nat) (col : Nat → Nat) : Ag n col col := fun _ _ => rfl
theorem Ag.trans {m n : Nat} {c1 c2 c3 : Nat → Nat} (f : Ag m c1 c2) (g : Ag n c2 c3) (h : m ≤ n) : Ag m c1 c3 := fun b hb => (g b (by omega)).trans (f b hb)
theorem Ag.le {m n : Nat} {c1 c2 : Nat → Nat} (f : Ag n c1 c2) (h : m ≤ n) : Ag m c1 c2 := fun b hb => f b (by omega)
theorem Sl.lt {h : Heap} {ec l c : Nat} {p : Addr} {xs : List Value} {F : Nat → Prop} (s : Sl h ec (some p) l c xs F) : p.block < h.size := s.2.2.2.1.lt
/-- a thing of colour k stays, where other colours were touched -/
theorem Sl.keep {h h' : Heap} {ec l c k : Nat} {a : Option Addr} {xs : List Value} {F : Nat → Prop} {col col' : Nat → Nat} (s : Sl h ec a l c xs (On col k)) (f : Fr F h h') (g : Ag h.size col col') (hF : ∀ b, col b = k → ¬ F b) : Sl h' ec a l c xs (On col' k) := by
  have s' := Sl.fr f s (fun b _ hb => hF b hb)
  obtain ⟨h1, h2⟩ := s'
  refine ⟨h1, ?_⟩
  cases a with
  | none => exact h2
  | some p => obtain ⟨a1, a2, a3, a4⟩ := h2; exact ⟨a1, (g _ s.lt).trans a2, a3, a4⟩
theorem append_col {elem : TI} {e : Nat} {a : Option Addr} {l c n k : Nat} {xs new : List Value} {h : Heap} {col : Nat → Nat} {K : Option Addr → Nat → Nat → Heap → Prop}
    (s : Sl h elem.cells a l c xs (On col k)) (hn : new.length = n * elem.cells) (hz : elem.zero.length = elem.cells) (hb : (l + n) * elem.bytes ≤ 140737488355328) (hb' : l + n ≤ 140737488355328)
    (hk : ∀ a' c' h', Fr (On col k) h h' → Sl h' elem.cells a' (l + n) c' (xs ++ new) (On (upd col h.size k) k) → K a' (l + n) c' h') :
    AppendP elem e a l c n new h K := by
  refine append_own s hn hz hb hb' fun a' c' h' f s' => hk a' c' h' f (s'.mono fun b hb => ?_)
  unfold On upd
  split
  · rcases hb with hb | hb
    · exact hb
    · omega
  · rfl
theorem Sl.get {h : Heap} {ec l c : Nat} {a : Option Addr} {xs : List Value} {F : Nat → Prop} (s : Sl h ec a l c xs F) (hl : 0 < l) : ∃ p, a = some p ∧ Cells h p xs := by
  cases a with
  | none => exact absurd s.2.1 (by omega)
  | some p => exact ⟨p, rfl, s.cells⟩
/-- part i of a row of equal parts -/
theorem flat_part {α : Type} (f : α → List Value) (w : Nat) : ∀ (xs : List α), (∀ x ∈ xs, (f x).length = w) → ∀ (i : Nat) (hi : i < xs.length), ((xs.flatMap f).drop (i * w)).take w = f xs[i] := by
  intro xs
  induction xs with
  | nil => intro _ i hi; exact absurd hi (by simp)
  | cons x r ih =>
    intro hw i hi
    have hx := hw x (List.mem_cons_self ..)
    rw [List.flatMap_cons]
    cases i with
    | zero => rw [Nat.zero_mul, List.drop_zero, ← hx, List.take_left]; rfl
    | succ i =>
      rw [Nat.add_mul, Nat.one_mul, Nat.add_comm, ← List.drop_drop, ← hx, List.drop_left, hx]
      exact ih (fun y hy => hw y (List.mem_cons_of_mem _ hy)) i (by simpa using hi)
theorem flat_length {α : Type} (f : α → List Value) (w : Nat) : ∀ (xs : List α), (∀ x ∈ xs, (f x).length = w) → (xs.flatMap f).length = xs.length * w := by
  intro xs
  induction xs with
  | nil => intro _; simp
  | cons x r ih =>
    intro hw
    rw [List.flatMap_cons, List.length_append, ih (fun y hy => hw y (List.mem_cons_of_mem _ hy)), hw x (List.mem_cons_self ..), List.length_cons, Nat.add_mul]; omega
theorem Cells.part {h : Heap} {p : Addr} {xs : List Value} (c : Cells h p xs) (o n : Nat) : Cells h (p.add o) ((xs.drop o).take n) := Cells.take (Cells.drop c o) n
theorem Cells.cell {h : Heap} {p : Addr} {xs : List Value} (c : Cells h p xs) {i : Nat} {v : Value} (hv : xs[i]? = some v) : cellOf h (p.add i) = some v := c i v hv
/-- part i of a row is written -/
theorem put_part {α : Type} (f : α → List Value) (w : Nat) (xs : List α) (hw : ∀ x ∈ xs, (f x).length = w) (i : Nat) (hi : i < xs.length) (y : α) (hy : (f y).length = w) :
    put (xs.flatMap f) (i * w) (f y) = (xs.set i y).flatMap f := by
  have hl := flat_length f w xs hw
  have hm : (i + 1) * w ≤ xs.length * w := Nat.mul_le_mul_right _ hi
  rw [Nat.add_mul, Nat.one_mul] at hm
  rw [put_eq _ _ _ (by omega), hy]
  have h1 : (xs.flatMap f).take (i * w) = (xs.take i).flatMap f := by
    conv => lhs; rw [← List.take_append_drop i xs, List.flatMap_append]
    rw [List.take_append_of_le_length]
    · rw [List.take_of_length_le]
      rw [flat_length f w _ (fun x hx => hw x (List.mem_of_mem_take hx)), List.length_take]
      exact Nat.mul_le_mul_right _ (by omega)
    · rw [flat_length f w _ (fun x hx => hw x (List.mem_of_mem_take hx)), List.length_take, Nat.min_eq_left (by omega)]; exact Nat.le_refl _
  have h2 : (xs.flatMap f).drop (i * w + w) = (xs.drop (i + 1)).flatMap f := by
    conv => lhs; rw [← List.take_append_drop (i + 1) xs, List.flatMap_append]
    have : ((xs.take (i + 1)).flatMap f).length = i * w + w := by
      rw [flat_length f w _ (fun x hx => hw x (List.mem_of_mem_take hx)), List.length_take, Nat.min_eq_left (by omega), Nat.add_mul, Nat.one_mul]
    rw [← this, List.drop_left]
  rw [h1, h2, List.set_eq_take_append_cons_drop, if_pos hi, List.flatMap_append, List.flatMap_cons, List.append_assoc]
end Go.Proofs.YtjdcbblgaoogmaaGreatDoor.Hp
namespace Go.Proofs.YtjdcbblgaoogmaaGreatDoor.Hp
open Go Go.Proofs Go.Proofs.YtjdcbblgaoogmaaGreatDoor.Wx
theorem one2 {a b : Value} (ha : a.oneCell' = true) (hb : b.oneCell' = true) : ∀ v ∈ [a, b], v.oneCell' = true := by
  intro v hv; rcases List.mem_cons.mp hv with rfl | hv
  · exact ha
  · rw [List.mem_singleton.mp hv]; exact hb
theorem os {α : Type} {a : α} {k : α → Prop} (h : k a) : onSome (some a) k := h
theorem ct {c : Bool} {A B : Prop} (h : c = true) (a : A) : bif c then A else B := by subst h; exact a
theorem cf {c : Bool} {A B : Prop} (h : c = false) (b : B) : bif c then A else B := by subst h; exact b
theorem cs {c : Bool} {A B : Prop} (a : c = true → A) (b : c = false → B) : bif c then A else B := by
  cases c
  · exact b rfl
  · exact a rfl
theorem cd {p : Prop} [Decidable p] {A B : Prop} (a : p → A) (b : ¬ p → B) : bif decide p then A else B := by
  by_cases h : p
  · rw [decide_eq_true h]; exact a h
  · rw [decide_eq_false h]; exact b h
theorem ce {x y : Int} {A B : Prop} (a : x = y → A) (b : x ≠ y → B) : bif x == y then A else B := by
  by_cases h : x = y
  · exact ct (by simpa using h) (a h)
  · exact cf (by simpa using h) (b h)
theorem cn {x y : Int} {A B : Prop} (a : x ≠ y → A) (b : x = y → B) : bif x != y then A else B := by
  by_cases h : x = y
  · exact cf (by simpa using h) (b h)
  · exact ct (by simpa using h) (a h)
theorem cnot {c : Bool} {A B : Prop} (h : bif c then B else A) : bif !c then A else B := by cases c <;> exact h
/-- h' is h with one block more, that holds cs -/
structure Newly (h h' : Heap) (cs : List Value) : Prop where
  size : h'.size = h.size + 1
  fr : Fr No h h'
  own : Own h' h.size
  rd : rd h' h.size = cs
theorem New.intro {cs : List Value} {t : Nat} {h : Heap} {k : Heap → Prop} (H : ∀ h', Newly h h' cs → k h') : New cs t h k :=
  H _ ⟨size_newO _ _ _, fr_newO _ _, own_newO_at _ _ _, rd_newO_at _ _ _⟩
theorem NewRow.intro {z : List Value} {t : Nat} {cs : List Value} {n : Nat} {h : Heap} {k : Heap → Prop} (hl : cs.length = n) (h1 : ∀ v ∈ cs, v.oneCell' = true) (hz : z.length = n)
    (H : ∀ h', Newly h h' cs → k h') : NewRow z t cs n h k :=
  ⟨stRow_rd (own_newO_at _ _ _) hl h1 (by rw [rd_newO_at, hz]; omega),
    H _ ⟨by rw [size_setRow, size_newO], Fr.setRow (Or.inr (Nat.le_refl _)) (fr_newO _ _), own_setRow (own_newO_at _ _ _), by rw [rd_setRow_at, rd_newO_at, Nat.zero_add, put_all _ _ (by rw [hl, hz])]⟩⟩
/-- h' is h, but for block b, that holds cs -/
structure Did (b : Nat) (h h' : Heap) (cs : List Value) : Prop where
  size : h'.size = h.size
  fr : Fr (fun x => x = b) h h'
  own : Own h' b
  rd : Hp.rd h' b = cs
theorem Put.intro {b o : Nat} {v : Value} {h : Heap} {k : Heap → Prop} (w : Own h b) (hl : o < (rd h b).length) (H : ∀ h', Did b h h' ((rd h b).set o v) → k h') : Put ⟨b, o, none⟩ v h k :=
  ⟨wr_rd w hl, H _ ⟨size_setOf _ _ _, (Fr.refl _ h).setOf (Or.inl rfl), own_setOf w, rd_setOf_at _ _ _ _⟩⟩
theorem Put.add {b o n : Nat} {v : Value} {h : Heap} {k : Heap → Prop} (w : Own h b) (hl : o + n < (rd h b).length) (H : ∀ h', Did b h h' ((rd h b).set (o + n) v) → k h') : Put (Addr.add ⟨b, o, none⟩ n) v h k := by
  rw [add_mk]; exact Put.intro w hl H
theorem PutRow.intro {b o n : Nat} {cs : List Value} {h : Heap} {k : Heap → Prop} (w : Own h b) (hn : cs.length = n) (h1 : ∀ v ∈ cs, v.oneCell' = true) (hl : o + n ≤ (rd h b).length)
    (H : ∀ h', Did b h h' (put (rd h b) o cs) → k h') : PutRow ⟨b, o, none⟩ cs n h k :=
  ⟨stRow_rd w hn h1 hl, H _ ⟨size_setRow _ _ _ _, Fr.setRow (F := fun x => x = b) (Or.inl rfl) (Fr.refl _ h), own_setRow w, by rw [rd_setRow_at, Nat.add_zero]⟩⟩
theorem PutRow.add {b o m n : Nat} {cs : List Value} {h : Heap} {k : Heap → Prop} (w : Own h b) (hn : cs.length = n) (h1 : ∀ v ∈ cs, v.oneCell' = true) (hl : o + m + n ≤ (rd h b).length)
    (H : ∀ h', Did b h h' (put (rd h b) (o + m) cs) → k h') : PutRow (Addr.add ⟨b, o, none⟩ m) cs n h k := by
  rw [add_mk]; exact PutRow.intro w hn h1 hl H
/-- a cell of a block that is known -/
theorem rdc {h : Heap} {b o : Nat} {xs : List Value} {v : Value} (e : rd h b = xs) (hv : xs[o]? = some v) : cellOf h ⟨b, o, none⟩ = some v := by rw [cellOf_rd, e]; exact hv
theorem rda {h : Heap} {b o n : Nat} {xs : List Value} {v : Value} (e : rd h b = xs) (hv : xs[o + n]? = some v) : cellOf h (Addr.add ⟨b, o, none⟩ n) = some v := by rw [add_mk, cellOf_rd, e]; exact hv
theorem cellsa {h : Heap} {b o n : Nat} {xs ys : List Value} (e : rd h b = xs) (hy : (xs.drop (o + n)).take ys.length = ys) : Cells h (Addr.add ⟨b, o, none⟩ n) ys := by rw [add_mk]; exact cells_rd (by rw [e]; exact hy)
theorem cellsAll {h : Heap} {b : Nat} {xs : List Value} (e : rd h b = xs) : Cells h ⟨b, 0, none⟩ xs := cells_rd (by rw [e, List.drop_zero, List.take_length])
/-- a block that is known, as bytes -/
theorem strAll {h : Heap} {b l : Nat} {bs : List UInt8} (e : rd h b = bs.map bv) (hl : bs.length = l) : StrAt h (some ⟨b, 0, none⟩) l bs := ⟨hl, cellsAll e⟩
theorem Did.at_ {b c : Nat} {h h' : Heap} {cs : List Value} (d : Did b h h' cs) (hc : c < h.size) (hn : c ≠ b) : Hp.rd h' c = Hp.rd h c := d.fr.rd hc hn
theorem Did.ow {b c : Nat} {h h' : Heap} {cs : List Value} (d : Did b h h' cs) (w : Own h c) : Own h' c := by
  by_cases e : c = b
  · subst e; exact d.own
  · exact d.fr.own w.lt e w
theorem Newly.at_ {c : Nat} {h h' : Heap} {cs : List Value} (d : Newly h h' cs) (hc : c < h.size) : Hp.rd h' c = Hp.rd h c := d.fr.rd hc (fun x => x)
theorem Newly.ow {c : Nat} {h h' : Heap} {cs : List Value} (d : Newly h h' cs) (w : Own h c) : Own h' c := d.fr.own w.lt (fun x => x) w
/-- what falls in a loop that counts up -/
theorem falls {n : Int} {m : Nat} (h : n < m) : ((m : Int) - (n + 1)).toNat < ((m : Int) - n).toNat := by omega
/-- frames go on -/
theorem Fr.new {F : Nat → Prop} {h h1 h2 : Heap} {cs : List Value} (f : Fr F h h1) (d : Newly h1 h2 cs) : Fr F h h2 := f.no d.fr
theorem Fr.did {F : Nat → Prop} {h h1 h2 : Heap} {cs : List Value} {b : Nat} (f : Fr F h h1) (d : Did b h1 h2 cs) (hb : b < h.size → F b) : Fr F h h2 := f.trans d.fr (fun _ hl e => e ▸ hb (e ▸ hl))
end Go.Proofs.YtjdcbblgaoogmaaGreatDoor.Hp
namespace Go.Proofs.YtjdcbblgaoogmaaGreatDoor.Hp
open Go Go.Proofs Go.Proofs.YtjdcbblgaoogmaaGreatDoor.Wx
theorem drop_put (X new : List Value) (o j n : Nat) (h1 : j + new.length ≤ n) (h2 : o + n ≤ X.length) : ((put X (o + j) new).drop o).take n = put ((X.drop o).take n) j new := by
  apply List.ext_getElem?
  intro i
  have hl : ((X.drop o).take n).length = n := by rw [List.length_take, List.length_drop]; omega
  rw [put_get _ _ _ _ (by rw [hl]; exact h1), List.getElem?_take, List.getElem?_take, List.getElem?_drop, List.getElem?_drop]
  by_cases hi : i < n
  · rw [if_pos hi, if_pos hi, put_get _ _ _ _ (by omega)]
    by_cases hj : j ≤ i ∧ i < j + new.length
    · rw [if_pos (by omega), if_pos hj]; congr 1; omega
    · rw [if_neg (by omega), if_neg hj]
  · rw [if_neg hi, if_neg hi, if_neg (by omega)]
/-- cells are written inside of a row -/
theorem Sl.putAt {h h' : Heap} {ec l c b o j : Nat} {xs new : List Value} {F : Nat → Prop} (s : Sl h ec (some ⟨b, o, none⟩) l c xs F) (hj : j + new.length ≤ l * ec)
    (d : Did b h h' (put (rd h b) (o + j) new)) : Sl h' ec (some ⟨b, o, none⟩) l c (put xs j new) F := by
  obtain ⟨h1, a1, a2, a3, a4, a5, a6⟩ := s
  have hm : l * ec ≤ c * ec := Nat.mul_le_mul_right _ a4
  simp only at a2 a3 a5 a6
  refine ⟨by rw [put_length, h1], rfl, a2, d.own, a4, ?_, ?_⟩
  · simp only [d.rd, put_length, h1]
    rw [drop_put _ _ _ _ _ hj (by omega), ← h1, a5]
  · simp only [d.rd, put_length]; exact a6
theorem Sl.putPart {α : Type} {f : α → List Value} {w : Nat} {h h' : Heap} {l c b o i : Nat} {xs : List α} {y : α} {F : Nat → Prop} (s : Sl h w (some ⟨b, o, none⟩) l c (xs.flatMap f) F)
    (hw : ∀ x ∈ xs, (f x).length = w) (hi : i < xs.length) (hy : (f y).length = w) (d : Did b h h' (put (rd h b) (o + i * w) (f y))) : Sl h' w (some ⟨b, o, none⟩) l c ((xs.set i y).flatMap f) F := by
  have h1 := s.1
  rw [flat_length f w xs hw] at h1
  have : (i + 1) * w ≤ xs.length * w := Nat.mul_le_mul_right _ hi
  rw [Nat.add_mul, Nat.one_mul] at this
  rw [← put_part f w xs hw i hi y hy]
  exact s.putAt (by rw [hy]; omega) d
/-- a row in a new block -/
theorem Sl.made {h h' : Heap} {ec l c : Nat} {xs zs cs : List Value} {F : Nat → Prop} (n : Newly h h' cs) (e : cs = xs ++ zs) (hF : F h.size) (hx : xs.length = l * ec) (hl : l ≤ c) (hz : zs.length = (c - l) * ec) :
    Sl h' ec (some ⟨h.size, 0, none⟩) l c xs F := by
  refine ⟨hx, rfl, hF, n.own, hl, ?_, ?_⟩
  · simp only [n.rd, e, List.drop_zero, List.take_left]
  · simp only [n.rd, e, List.length_append, hx, hz, Nat.zero_add]
    rw [← Nat.add_mul]; exact Nat.mul_le_mul_right _ (by omega)
theorem Sl.wr {h : Heap} {ec l c b o : Nat} {xs : List Value} {F : Nat → Prop} (s : Sl h ec (some ⟨b, o, none⟩) l c xs F) : Own h b ∧ o + l * ec ≤ (rd h b).length := by
  obtain ⟨h1, a1, a2, a3, a4, a5, a6⟩ := s
  have hm : l * ec ≤ c * ec := Nat.mul_le_mul_right _ a4
  simp only at a6
  exact ⟨a3, by omega⟩
theorem Sl.mk {h : Heap} {ec l c : Nat} {p : Addr} {xs : List Value} {F : Nat → Prop} (s : Sl h ec (some p) l c xs F) : p = ⟨p.block, p.off, none⟩ := by
  obtain ⟨b, o, sp⟩ := p
  have : sp = none := s.2.1
  rw [this]
theorem CopyP.intro {elem : TI} {b o n m c : Nat} {src : Option Addr} {new : List Value} {h : Heap} {k : Nat → Heap → Prop} (hn : new.length = min m n * elem.cells) (hs : SlCells h src new) (h1 : ∀ v ∈ new, v.oneCell' = true)
    (w : Own h b) (hl : o + new.length ≤ (rd h b).length) (H : ∀ h', Did b h h' (put (rd h b) o new) → k (min m n) h') : CopyP elem (some ⟨b, o, none⟩) n (.slice src m c) h k := by
  refine ⟨new, hn, hs, h1, ?_, H _ ?_⟩
  · simp only [WrS, Addr.add_zero]; exact wrN_rd w (by omega)
  · simp only [setS, Addr.add_zero]
    exact ⟨size_setRow _ _ _ _, Fr.setRow (F := fun x => x = b) (Or.inl rfl) (Fr.refl _ h), own_setRow w, by rw [rd_setRow_at, Nat.add_zero]⟩
end Go.Proofs.YtjdcbblgaoogmaaGreatDoor.Hp
namespace Go.Proofs.YtjdcbblgaoogmaaGreatDoor.Gl
open Go Go.ChangeShapes Go.WideShapes Go.ChangeAt Go.RowKit Go.Proofs Go.Proofs.YtjdcbblgaoogmaaGreatDoor.Wx Go.Proofs.YtjdcbblgaoogmaaGreatDoor.Hp
theorem trodAll_below {H : Type} {enc : TypeId × Value → H} {P : Program} (hl : laidOutB P = true) {W W' : World} (hb : Below W.heap.size W W') :
    ∀ {ts : List TypeId} {vs : List Value} {ds : List (DataW H)} {ps : List MemPlace}, (∀ t ∈ ts, P.readableRec t = true ∧ t < P.types.size) → DataW.TrodAll enc P W 0 (fun _ => true) true ts vs ds ps →
      (∀ x ∈ ps, x.block < W.heap.size) → DataW.TrodAll enc P W' 0 (fun b => decide (b < W.heap.size)) true ts vs ds ps := by
  intro ts
  induction ts with
  | nil =>
    intro vs ds ps _ h _
    obtain ⟨rfl, rfl, rfl⟩ := trodAll_nil h
    exact trodAll_mk0
  | cons t ts ih =>
    intro vs ds ps hts h hlt
    match vs, ds, h with
    | v :: vs, d :: ds, ⟨p, q, h1, h2, e⟩ =>
      subst e
      obtain ⟨a1, a2⟩ := hts t (List.mem_cons_self ..)
      exact ⟨p, q, Below.trod hl a1 a2 h1 hb (fun x hx => hlt x (List.mem_append_left _ hx)), ih (fun u hu => hts u (List.mem_cons_of_mem _ hu)) h2 (fun x hx => hlt x (List.mem_append_right _ hx)), rfl⟩
/-- the law's call, as its caller sees it -/
def True_ (h : Heap) : Value → Heap → Prop := fun v h' => v = .bool true ∧ Fr No h h'
theorem true_mk {h : Heap} : ∀ h', Fr No h h' → True_ h (.bool true) h' := fun _ f => ⟨rfl, f⟩
end Go.Proofs.YtjdcbblgaoogmaaGreatDoor.Gl
namespace Go.Proofs.YtjdcbblgaoogmaaGreatDoor.Gl
open Go Go.ChangeShapes Go.WideShapes Go.ChangeAt Go.RowKit Go.Proofs Go.Proofs.YtjdcbblgaoogmaaGreatDoor.Wx Go.Proofs.YtjdcbblgaoogmaaGreatDoor.Hp
theorem int_range {n : Int} (h : (Lit.int .i64 n).wf = true) : -9223372036854775808 ≤ n ∧ n ≤ 9223372036854775807 := by
  have h1 : IntKind.i64.min = -9223372036854775808 := rfl
  have h2 : IntKind.i64.max = 9223372036854775807 := rfl
  simp only [Lit.wf, Bool.and_eq_true, decide_eq_true_eq] at h
  omega
theorem u8_range {n : Int} (h : (Lit.int .u8 n).wf = true) : 0 ≤ n ∧ n ≤ 255 := by
  have h1 : IntKind.u8.min = 0 := rfl
  have h2 : IntKind.u8.max = 255 := rfl
  simp only [Lit.wf, Bool.and_eq_true, decide_eq_true_eq] at h
  omega
theorem bv_of {n : Int} (h : (Lit.int .u8 n).wf = true) : bv (UInt8.ofNat n.toNat) = .int .u8 n := by
  have := u8_range h
  simp only [bv, Value.int.injEq, true_and, UInt8.toNat_ofNat']
  omega
/-- at most c elements -/
def Room {H : Type} (d : DataW H) (c : Nat) : Prop := c = 0 ∨ ∃ es sp, d = .slice es sp ∧ es.length + sp.length = c
end Go.Proofs.YtjdcbblgaoogmaaGreatDoor.Gl
namespace Go.Proofs.YtjdcbblgaoogmaaGreatDoor.Gl
open Go Go.ChangeShapes Go.WideShapes Go.ChangeAt Go.RowKit Go.Proofs Go.Proofs.YtjdcbblgaoogmaaGreatDoor.Wx Go.Proofs.YtjdcbblgaoogmaaGreatDoor.Hp
theorem Cells.append {h : Heap} {a : Addr} {xs ys : List Value} (c : Cells h a xs) (d : Cells h (a.add xs.length) ys) : Cells h a (xs ++ ys) := by
  intro i v hv
  rcases Nat.lt_or_ge i xs.length with hi | hi
  · rw [List.getElem?_append_left hi] at hv; exact c i v hv
  · rw [List.getElem?_append_right hi] at hv
    have := d (i - xs.length) v hv
    by_cases h0 : i - xs.length = 0
    · rw [h0, Addr.add_zero] at this
      rw [show i = xs.length by omega]; exact this
    · rw [Addr.add_add] at this
      rw [show i = xs.length + (i - xs.length) by omega]; exact this
theorem cells_of_world {w : World} {base : Nat} {a : Addr} {n : Nat} {cs : List Value} (h : w.cells? base a n = some cs) : Cells w.heap a cs := by
  obtain ⟨_, h2, h3⟩ := World.cells?_some h
  intro i v hv
  have hi : i < cs.length := (List.getElem?_eq_some_iff.mp hv).1
  have := h3 i (by omega)
  rw [hv] at this
  exact this
theorem cells_flat {α : Type} {h : Heap} {f : α → List Value} {w : Nat} : ∀ (xs : List α) (a : Addr) (k : Nat), (∀ x ∈ xs, (f x).length = w) → (∀ i (hi : i < xs.length), Cells h (a.add ((k + i) * w)) (f xs[i])) → Cells h (a.add (k * w)) (xs.flatMap f) := by
  intro xs
  induction xs with
  | nil => intro a k _ _; exact Cells.nil h _
  | cons x r ih =>
    intro a k hw hc
    rw [List.flatMap_cons]
    refine Cells.append (hc 0 (by simp)) ?_
    have := ih a (k + 1) (fun y hy => hw y (List.mem_cons_of_mem _ hy)) (fun i hi => by
      have := hc (i + 1) (by simpa using hi)
      rw [show k + 1 + i = k + (i + 1) by omega]; exact this)
    rw [hw x (List.mem_cons_self ..)]
    rw [Nat.add_mul, Nat.one_mul] at this
    have e : (a.add (k * w)).add w = a.add (k * w + w) := by
      by_cases h0 : w = 0
      · subst h0; simp [Addr.add]
      · rw [Addr.add_add]
    rw [e]; exact this
theorem pick_list {α : Type} {p : Nat → α → Prop} : ∀ n, (∀ i, i < n → ∃ x, p i x) → ∃ xs : List α, xs.length = n ∧ ∀ i (hi : i < xs.length), p i xs[i] := by
  intro n
  induction n with
  | zero => intro _; exact ⟨[], rfl, fun i hi => absurd hi (by simp)⟩
  | succ n ih =>
    intro h
    obtain ⟨xs, hl, hx⟩ := ih fun i hi => h i (by omega)
    obtain ⟨y, hy⟩ := h n (by omega)
    refine ⟨xs ++ [y], by simp [hl], fun i hi => ?_⟩
    rcases Nat.lt_or_ge i xs.length with h1 | h1
    · rw [List.getElem_append_left h1]; exact hx i h1
    · have : i = n := by simp at hi; omega
      subst this
      rw [List.getElem_append_right (by omega)]
      simpa [hl] using hy
end Go.Proofs.YtjdcbblgaoogmaaGreatDoor.Gl
namespace Go.Proofs.YtjdcbblgaoogmaaGreatDoor.Gl
open Go Go.ChangeShapes Go.WideShapes Go.ChangeAt Go.RowKit Go.Proofs Go.Proofs.YtjdcbblgaoogmaaGreatDoor.Wx Go.Proofs.YtjdcbblgaoogmaaGreatDoor.Hp
/-- bytes inside of a part -/
theorem inner_bytes {H : Type} {enc : TypeId × Value → H} {P : Program} {W : World} {t e n : Nat} {cs : List Value} {y : DataW H × List MemPlace}
    (ht : P.underlying t = some (.slice e)) (he : P.underlying e = some (.int .u8)) (hc : P.cellsOf e = 1) (h : DataW.trod enc P W 0 (fun _ => true) true n t cs = some y) :
    ∃ a l c bs, cs = [.slice a l c] ∧ StrAt W.heap a l bs ∧ l ≤ c ∧ Room y.1 c := by
  rcases open_ints ht he hc h with ⟨hcs, hx⟩ | ⟨a, len', cap', zs, hcs, _, hl, hm, hz, hx, hcell, hwz⟩
  · exact ⟨none, 0, 0, [], hcs, StrAt.nil _ _, Nat.le_refl _, Or.inl rfl⟩
  · subst hx
    simp only [if_true] at hz
    refine ⟨_, _, _, (zs.take len').map fun n => UInt8.ofNat n.toNat, hcs, ⟨by rw [List.length_map, List.length_take]; omega, ?_⟩, hl, Or.inr ⟨_, _, rfl, by simp [lits]; omega⟩⟩
    intro i u hu
    rw [List.map_map, List.getElem?_map] at hu
    rcases Nat.lt_or_ge i len' with hi | hi
    · rw [List.getElem?_take_of_lt hi, List.getElem?_eq_getElem (by omega)] at hu
      simp only [Option.map_some, Option.some.injEq, Function.comp_def] at hu
      rw [bv_of (hwz _ (List.getElem_mem (by omega)))] at hu
      have := hcell i (by omega)
      simp only [List.getD, List.getElem?_eq_getElem (show i < zs.length by omega), Option.getD_some] at this
      rw [← hu]; exact this
    · rw [List.getElem?_eq_none (by rw [List.length_take]; omega)] at hu; simp at hu
end Go.Proofs.YtjdcbblgaoogmaaGreatDoor.Gl
namespace Go.Proofs.YtjdcbblgaoogmaaGreatDoor.Gl
open Go Go.ChangeShapes Go.WideShapes Go.ChangeAt Go.RowKit Go.Proofs Go.Proofs.YtjdcbblgaoogmaaGreatDoor.Wx Go.Proofs.YtjdcbblgaoogmaaGreatDoor.Hp
theorem lifted_row {H : Type} {enc : TypeId × Value → H} {C : Checked} {P : Program} (hP : C.prog = P) {os : Os} {f : FuncId} {fn : Func} {s : ChangeSpec} {tb : TypeId} {conds : List PathCond} {F : Stop.Interp} {laid : List (String × DataW Unit)}
    (own : ownKnob P.godebug = none) (started : os.Started) (noInit : P.inits.idxOf? f = none) (hfn : P.funcs[f]? = some fn)
    (witness : ∃ (w : World) (tape : Tape) (i : Input), w.os = os ∧ (w.forCall tape i).Shaped P ∧ i.vars = [] ∧ Input.okWide P (w.forCall tape i) .any w.heap.size f i ∧
      (OpenSpec.ofChange s).preRow enc P fn conds false laid (w.forCall tape i).memory i.args ∧ Assume.holds {} P (lone (Frame.enter P f i.args .normal) [] (w.forCall tape i)))
    (hl : laidOutB P = true) (hts0 : (fn.params.toList.all fun t => P.readableRec t && decide (t < P.types.size)) = true) (hr : fn.resultTypes = #[tb]) (hb : P.underlying tb = some .bool) (hvars : s.vars = [])
    (hres : ∀ ds : List (DataW H), ds.length = fn.params.toList.length → (s.fn H (ds ++ [])).results = [.lit (.bool true)] ∧ (s.fn H (ds ++ [])).args = ds ∧ (s.fn H (ds ++ [])).vars = [])
    (law : ∀ (W : World) (base : Nat) (args : Array Value) (ds : List (DataW H)) (ps : List MemPlace), (∀ (j : Nat) t v, fn.params[j]? = some t → args[j]? = some v → Value.okWide P W .any base t v) →
      DataW.TrodAll enc P W 0 (fun _ => true) true fn.params.toList args.toList ds ps → (DataW.weightsEach P fn.params.toList ds).all (· ≤ reachBytes) = true → laidMetH P laid W →
      HCalls P f args.toList W.heap (True_ W.heap)) :
    ReturnsInHanded {} C os f .any ((OpenSpec.ofChange s).preRow enc P fn conds false laid) (((OpenSpec.ofChange s).at F).post enc P fn false true false false) := by
  subst hP
  have hts : ∀ t ∈ fn.params.toList, C.prog.readableRec t = true ∧ t < C.prog.types.size := by
    intro t ht
    have := List.all_eq_true.mp hts0 t ht
    rw [Bool.and_eq_true] at this
    exact ⟨this.1, of_decide_eq_true this.2⟩
  refine returnsInHanded_of_row (C := C) (s := OpenSpec.ofChange s) own started noInit hfn witness ?_
  intro W base args ds gs before hval hW _ _ hsz hL _ _
  have hW' : DataW.Whole enc C.prog fn.params.toList s.vars false W args.toList ds gs before := hW
  obtain ⟨p, q, hA, hV, rfl, _, _⟩ := hW
  rw [show (OpenSpec.ofChange s).vars = [] from hvars] at hV
  obtain ⟨rfl, rfl⟩ := trodVars_none hV
  have hvt : (OpenSpec.ofChange s).bare.plain.varTypes C.prog = [] := by
    have : (OpenSpec.ofChange s).bare.plain.vars = [] := hvars
    simp [DataSpec.varTypes, this]
  rw [hvt, List.append_nil, List.append_nil] at hsz
  obtain ⟨_, hc⟩ := law W base args ds p hval hA hsz hL
  have hlen := (trodAll_length hA).2
  obtain ⟨e1, e2, e3⟩ := hres ds hlen
  simp only [List.append_nil] at hW'
  refine (hc W rfl).mono fun e W' ⟨v, he, hs, hv, hf⟩ => ?_
  subst hv
  refine ⟨_, he, ds, [], p, [], p, [], (by exact hW'), ?_, ?_, ?_, ?_, fun h => by cases h⟩
  · show DataW.TrodAll _ _ _ _ _ _ _ _ (s.fn H (ds ++ [])).results _
    rw [e1, hr]; exact trodAll_mk1 (shut_bool hb true)
  · show DataW.TrodAll _ _ _ _ _ _ _ _ (s.fn H (ds ++ [])).args _
    rw [e2]
    exact trodAll_below hl ⟨hs.1, hs.2.1, hs.2.2, hf.size, fun k hk => hf.same k hk (fun x => x)⟩ hts hA (fun x hx => by simpa using hW'.lt x (by simpa using hx))
  · have e4 : (((OpenSpec.ofChange s).at F).fn H (ds ++ [])).vars = [] := e3
    have e5 : ((OpenSpec.ofChange s).at F).vars = [] := hvars
    rw [e4, e5]; rfl
  · exact (Below.frame (⟨hs.1, hs.2.1, hs.2.2, hf.size, fun k hk => hf.same k hk (fun x => x)⟩ : Below W.heap.size W W') _)
/-- a table of bools -/
theorem cells_of_bools {H : Type} {enc : TypeId × Value → H} {P : Program} {w : World} {base : Nat} {sp : Nat → Bool} {held : Bool} {fuel : Nat} {t e : TypeId} {n : Nat} {cs : List Value} {zs : List Bool} {p : List MemPlace}
    (ht : P.underlying t = some (.array n e)) (he : P.underlying e = some .bool) (hce : P.cellsOf e = 1) (hct : P.cellsOf t = n)
    (h : DataW.trod enc P w base sp held fuel t cs = some (.agg (zs.map fun z => .lit (.bool z)), p)) : cs = zs.map fun z => Value.bool z := by
  cases fuel with
  | zero => simp [DataW.trod] at h
  | succ fuel =>
    simp only [DataW.trod, ht, hce, hct, Nat.mul_one] at h
    split at h
    · rename_i hl
      obtain ⟨xs, hm, hx⟩ := Option.map_eq_some_iff.1 h
      have hxs : xs.map (·.1) = zs.map fun z => (DataW.lit (.bool z) : DataW H) := by
        have := congrArg Prod.fst hx
        simpa using this
      have hxl : xs.length = n := by simpa using Lib.mapM_length hm
      have hzl : zs.length = n := by
        have := congrArg List.length hxs
        simp at this
        omega
      apply List.ext_getElem?
      intro i
      by_cases hi : i < n
      · obtain ⟨b, hb, hf⟩ := Lib.mapM_at hm i i (by simp [hi])
        obtain ⟨z, hc, rfl⟩ := DataW.trod_bool he hf
        have h1 : cs[i]? = some (.bool z) := by
          have := congrArg (·[0]?) hc
          simpa [List.getElem?_take, List.getElem?_drop] using this
        have h2 : (xs.map (·.1))[i]? = some (DataW.lit (.bool z) : DataW H) := by simp [hb]
        rw [hxs] at h2
        simp only [List.getElem?_map, Option.map_eq_some_iff, DataW.lit.injEq, Lit.bool.injEq] at h2
        obtain ⟨z', hz', rfl⟩ := h2
        simp [h1, hz']
      · rw [List.getElem?_eq_none (by omega), List.getElem?_eq_none (by simp; omega)]
    · cases h
theorem rd_var {P : Program} {W : World} {name : String} {g : Nat} {cs : Array Value} (hg : P.globalNamed name = some g) (h : W.var? P name = some cs) : rd W.heap g = cs.toList := by
  unfold World.var? at h
  rw [hg, Option.bind_some] at h
  cases hw : W.heap[g]? with
  | none => rw [hw] at h; cases h
  | some o =>
    rw [hw] at h
    cases o with
    | cells c t z => simp only [Option.some.injEq] at h; subst h; simp [rd, hw]
    | _ => cases h
end Go.Proofs.YtjdcbblgaoogmaaGreatDoor.Gl
namespace Go.Proofs.YtjdcbblgaoogmaaGreatDoor.Gl
open Go Go.ChangeShapes Go.WideShapes Go.ChangeAt Go.RowKit Go.Proofs Go.Proofs.YtjdcbblgaoogmaaGreatDoor.Wx Go.Proofs.YtjdcbblgaoogmaaGreatDoor.Hp
theorem weight_all {H : Type} {P : Program} {e : TypeId} {y : DataW H} {w : Nat} (hw : w ∈ y.weights P e) : ∀ {ds : List (DataW H)}, y ∈ ds → w ∈ DataW.weightsAll P e ds
  | [], h => by cases h
  | d :: r, h => by
    simp only [DataW.weightsAll]
    rcases List.mem_cons.mp h with rfl | h
    · exact List.mem_append_left _ hw
    · exact List.mem_append_right _ (weight_all hw h)
theorem weight_elem {H : Type} {P : Program} {t e : TypeId} {es sp : List (DataW H)} {y : DataW H} {w : Nat} (ht : P.underlying t = some (.slice e)) (hy : y ∈ es) (hw : w ∈ y.weights P e) : w ∈ (DataW.slice es sp).weights P t := by
  simp only [DataW.weights, ht]
  exact List.mem_cons_of_mem _ (List.mem_append_left _ (weight_all hw hy))
/-- a row inside of a part: each of its own parts with what is known of it -/
theorem inner_rowW {α H : Type} {enc : TypeId × Value → H} {P : Program} {W : World} {t e w n : Nat} {cs : List Value} {y : DataW H × List MemPlace} (f : α → List Value) (Q : DataW H → α → Prop) (hw : ∀ x, (f x).length = w)
    (ht : P.underlying t = some (.slice e)) (hc : P.cellsOf e = w) (h : DataW.trod enc P W 0 (fun _ => true) true n t cs = some y)
    (one : ∀ n cs y, DataW.trod enc P W 0 (fun _ => true) true n e cs = some y → ∃ x, cs = f x ∧ Q y.1 x) :
    ∃ a l c, ∃ xs : List α, cs = [.slice a l c] ∧ SlCells W.heap a (xs.flatMap f) ∧ xs.length = l ∧ l ≤ c ∧ Room y.1 c ∧ ∀ i (hi : i < xs.length), ∃ z, (∀ k ∈ z.weights P e, k ∈ y.1.weights P t) ∧ Q z xs[i] := by
  rcases DataW.trod_slice ht h with ⟨hcs, hx⟩ | ⟨a, len', cap', elems, rest, n, _, hcs, hx, hb, hl, hm, hlen, hel, hsp, hns⟩
  · exact ⟨none, 0, 0, [], hcs, rfl, rfl, Nat.le_refl _, Or.inl rfl, fun i hi => absurd hi (Nat.not_lt_zero _)⟩
  · subst hx
    obtain ⟨hrl, _⟩ := hsp rfl
    obtain ⟨xs, hxl, hxs⟩ := pick_list (p := fun i x => Cells W.heap (a.add ((0 + i) * w)) (f x) ∧ ∃ y ∈ elems.map (·.1), Q y x) len' fun i hi => by
      have h1 := hel i hi
      rw [List.getElem?_eq_getElem (by omega), hc, Option.bind_eq_some_iff] at h1
      obtain ⟨cs, h2, h3⟩ := h1
      obtain ⟨x, rfl, hq⟩ := one _ _ _ h3
      exact ⟨x, by rw [Nat.zero_add]; exact cells_of_world h2, _, List.mem_map.mpr ⟨_, List.getElem_mem (by omega), rfl⟩, hq⟩
    refine ⟨_, _, _, xs, hcs, ?_, hxl, hl, Or.inr ⟨_, _, rfl, by rw [List.length_map, List.length_map]; omega⟩, fun i hi => ?_⟩
    · have := cells_flat xs a 0 (fun x _ => hw x) fun i hi => (hxs i hi).1
      rw [Nat.zero_mul, Addr.add_zero] at this
      exact this
    · obtain ⟨y, hy, hq⟩ := (hxs i hi).2
      exact ⟨y, fun k hk => weight_elem ht hy hk, hq⟩
end Go.Proofs.YtjdcbblgaoogmaaGreatDoor.Gl
