/-
  A HEAP AS A ROW OF LISTS: what a block holds, what stays, what may be written.
-/
import Derived.Test.YtnbfaokpaiiojaaWxK
namespace Go.Proofs.Ytnbfaokpaiiojaa.Hp
open Go Go.Proofs Go.Proofs.Ytnbfaokpaiiojaa.Wx

/-- what block b holds -/
def rd (h : Heap) (b : Nat) : List Value :=
  match h[b]? with
  | some (.cells c _ _) => c.toList
  | _ => []
/-- a block of cells, none of them frozen -/
def Own (h : Heap) (b : Nat) : Prop := ∃ c T, h[b]? = some (.cells c T (0, 0))
/-- h' has come of h; of the blocks of h only those in F may differ -/
structure Fr (F : Nat → Prop) (h h' : Heap) : Prop where
  size : h.size ≤ h'.size
  same : ∀ b, b < h.size → ¬ F b → h'[b]? = h[b]?
def No : Nat → Prop := fun _ => False
def From (n : Nat) : Nat → Prop := fun b => n ≤ b

theorem Fr.rd {F : Nat → Prop} {h h' : Heap} (f : Fr F h h') {b : Nat} (hb : b < h.size) (hF : ¬ F b) : rd h' b = rd h b := by
  simp only [Hp.rd, f.same b hb hF]
theorem Fr.own {F : Nat → Prop} {h h' : Heap} (f : Fr F h h') {b : Nat} (hb : b < h.size) (hF : ¬ F b) (o : Own h b) : Own h' b := by
  obtain ⟨c, T, e⟩ := o; exact ⟨c, T, by rw [f.same b hb hF]; exact e⟩
theorem Fr.refl (F : Nat → Prop) (h : Heap) : Fr F h h := ⟨Nat.le_refl _, fun _ _ _ => rfl⟩
theorem Fr.trans {F G : Nat → Prop} {h1 h2 h3 : Heap} (f : Fr F h1 h2) (g : Fr G h2 h3) (hs : ∀ b, b < h1.size → G b → F b) : Fr F h1 h3 :=
  ⟨Nat.le_trans f.size g.size, fun b hb hF => (g.same b (Nat.lt_of_lt_of_le hb f.size) (fun x => hF (hs b hb x))).trans (f.same b hb hF)⟩
theorem Fr.no {F : Nat → Prop} {h1 h2 h3 : Heap} (f : Fr F h1 h2) (g : Fr No h2 h3) : Fr F h1 h3 := f.trans g fun _ _ x => x.elim
theorem Fr.mono {F G : Nat → Prop} {h h' : Heap} (f : Fr F h h') (hs : ∀ b, b < h.size → F b → G b) : Fr G h h' :=
  ⟨f.size, fun b hb hG => f.same b hb fun x => hG (hs b hb x)⟩
theorem Own.lt {h : Heap} {b : Nat} (o : Own h b) : b < h.size := by
  obtain ⟨c, T, e⟩ := o
  rcases Nat.lt_or_ge b h.size with hl | hl
  · exact hl
  · rw [Array.getElem?_eq_none hl] at e; exact absurd e (by simp)
theorem rd_lt {h : Heap} {b o : Nat} {v : Value} (e : (rd h b)[o]? = some v) : b < h.size := by
  rcases Nat.lt_or_ge b h.size with hl | hl
  · exact hl
  · simp only [rd, Array.getElem?_eq_none hl] at e; simp at e

/-! newO -/
theorem size_newO (h : Heap) (cs : List Value) (t : Nat) : (newO h cs t).size = h.size + 1 := by simp [newO]
theorem get_newO (h : Heap) (cs : List Value) (t b : Nat) : (newO h cs t)[b]? = if b = h.size then some (.cells ⟨cs⟩ t) else h[b]? := by
  simp [newO, Array.getElem?_push]
theorem rd_newO (h : Heap) (cs : List Value) (t b : Nat) : rd (newO h cs t) b = if b = h.size then cs else rd h b := by
  by_cases hb : b = h.size
  · simp only [rd, get_newO, if_pos hb]
  · simp only [rd, get_newO, if_neg hb]
theorem rd_newO_at (h : Heap) (cs : List Value) (t : Nat) : rd (newO h cs t) h.size = cs := by rw [rd_newO, if_pos rfl]
theorem rd_newO_ne {h : Heap} {cs : List Value} {t b : Nat} (hb : b ≠ h.size) : rd (newO h cs t) b = rd h b := by rw [rd_newO, if_neg hb]
theorem own_newO_at (h : Heap) (cs : List Value) (t : Nat) : Own (newO h cs t) h.size := ⟨_, _, by rw [get_newO, if_pos rfl]⟩
theorem own_newO {h : Heap} {cs : List Value} {t b : Nat} (o : Own h b) : Own (newO h cs t) b := by
  have := o.lt; obtain ⟨c, T, e⟩ := o; exact ⟨c, T, by rw [get_newO, if_neg (by omega)]; exact e⟩
theorem Fr.newO {F : Nat → Prop} {h h' : Heap} (f : Fr F h h') (cs : List Value) (t : Nat) : Fr F h (newO h' cs t) :=
  ⟨by rw [size_newO]; have := f.size; omega, fun b hb hF => by rw [get_newO, if_neg (by have := f.size; omega)]; exact f.same b hb hF⟩
theorem fr_newO {F : Nat → Prop} {h : Heap} (cs : List Value) (t : Nat) : Fr F h (Wx.newO h cs t) := (Fr.refl F h).newO cs t

/-! writes -/
theorem size_setOf (h : Heap) (a : Addr) (v : Value) : (setOf h a v).size = h.size := by simp [setOf]
theorem get_setOf (h : Heap) (b o : Nat) (v : Value) (c : Nat) : (setOf h ⟨b, o, none⟩ v)[c]? = if c = b then (h[c]?).map (fun x => match x with | .cells cs e f => .cells (cs.setIfInBounds o v) e f | x => x) else h[c]? := by
  simp only [setOf, Array.getElem?_modify, Option.isSome_none, Bool.false_eq_true, if_false]
  by_cases hc : c = b
  · subst hc; simp; rfl
  · simp [hc, Ne.symm hc]
theorem rd_setOf (h : Heap) (b o : Nat) (v : Value) (c : Nat) : rd (setOf h ⟨b, o, none⟩ v) c = if c = b then (rd h b).set o v else rd h c := by
  simp only [rd, get_setOf]
  by_cases hc : c = b
  · subst hc; simp only [if_pos]; cases h[c]? with
    | none => simp
    | some x => cases x <;> simp
  · simp only [if_neg hc]
theorem rd_setOf_at (h : Heap) (b o : Nat) (v : Value) : rd (setOf h ⟨b, o, none⟩ v) b = (rd h b).set o v := by rw [rd_setOf, if_pos rfl]
theorem rd_setOf_ne {h : Heap} {b o : Nat} {v : Value} {c : Nat} (hc : c ≠ b) : rd (setOf h ⟨b, o, none⟩ v) c = rd h c := by rw [rd_setOf, if_neg hc]
theorem own_setOf {h : Heap} {b o : Nat} {v : Value} {c : Nat} (w : Own h c) : Own (setOf h ⟨b, o, none⟩ v) c := by
  obtain ⟨cs, T, e⟩ := w
  by_cases hc : c = b
  · exact ⟨cs.setIfInBounds o v, T, by rw [get_setOf, if_pos hc, e]; rfl⟩
  · exact ⟨cs, T, by rw [get_setOf, if_neg hc]; exact e⟩
theorem Fr.setOf {F : Nat → Prop} {h h' : Heap} (f : Fr F h h') {b o : Nat} {v : Value} (hb : F b ∨ h.size ≤ b) : Fr F h (setOf h' ⟨b, o, none⟩ v) :=
  ⟨by rw [size_setOf]; exact f.size, fun c hc hF => by
    rw [get_setOf, if_neg (by rintro rfl; rcases hb with hb | hb; exact hF hb; omega)]; exact f.same c hc hF⟩
/-- overwrite from o on -/
def put (xs : List Value) (o : Nat) : List Value → List Value
  | [] => xs
  | v :: r => put (xs.set o v) (o + 1) r
theorem put_length (cs : List Value) : ∀ (xs : List Value) (o : Nat), (put xs o cs).length = xs.length := by
  induction cs with
  | nil => intros; rfl
  | cons v r ih => intro xs o; simp [put, ih]
theorem put_get (cs : List Value) : ∀ (xs : List Value) (o i : Nat), o + cs.length ≤ xs.length → (put xs o cs)[i]? = if o ≤ i ∧ i < o + cs.length then cs[i - o]? else xs[i]? := by
  induction cs with
  | nil => intro xs o i h; rw [if_neg (by rw [List.length_nil]; omega)]; rfl
  | cons v r ih =>
    intro xs o i h
    simp only [List.length_cons] at h
    simp only [put]
    rw [ih (xs.set o v) (o + 1) i (by simp; omega)]
    by_cases h1 : i = o
    · subst h1
      rw [if_neg (by omega), if_pos ⟨Nat.le_refl _, by rw [List.length_cons]; omega⟩, List.getElem?_set, if_pos rfl, if_pos (by omega), Nat.sub_self]; rfl
    · by_cases h2 : o + 1 ≤ i ∧ i < o + 1 + r.length
      · rw [if_pos h2, if_pos ⟨by omega, by rw [List.length_cons]; omega⟩]
        obtain ⟨j, rfl⟩ : ∃ j, i = o + 1 + j := ⟨i - (o + 1), by omega⟩
        rw [show o + 1 + j - o = j + 1 by omega, show o + 1 + j - (o + 1) = j by omega]; rfl
      · rw [if_neg h2, if_neg (by simp only [List.length_cons]; omega), List.getElem?_set_ne (by omega)]
theorem put_eq (cs xs : List Value) (o : Nat) (h : o + cs.length ≤ xs.length) : put xs o cs = xs.take o ++ cs ++ xs.drop (o + cs.length) := by
  apply List.ext_getElem?
  intro i
  rw [put_get _ _ _ _ h]
  by_cases h1 : i < o
  · rw [if_neg (by omega), List.append_assoc, List.getElem?_append_left (by rw [List.length_take]; omega), List.getElem?_take_of_lt h1]
  · by_cases h2 : i < o + cs.length
    · rw [if_pos ⟨by omega, h2⟩, List.getElem?_append_left (by simp; omega), List.getElem?_append_right (by rw [List.length_take]; omega), List.length_take, Nat.min_eq_left (by omega)]
    · rw [if_neg (by omega), List.getElem?_append_right (by simp; omega), List.getElem?_drop]
      congr 1; simp; omega
theorem put_all (cs xs : List Value) (h : cs.length = xs.length) : put xs 0 cs = cs := by rw [put_eq _ _ _ (by omega)]; simp [h]
theorem add_mk (b o n : Nat) : Addr.add ⟨b, o, none⟩ n = ⟨b, o + n, none⟩ := by
  by_cases hn : n = 0
  · subst hn; rfl
  · simp [Addr.add, hn]
theorem size_setRow (a : Addr) : ∀ (cs : List Value) (h : Heap) (i : Nat), (setRow h a cs i).size = h.size := by
  intro cs; induction cs with
  | nil => intros; rfl
  | cons v r ih => intro h i; simp only [setRow, ih, size_setOf]
theorem rd_setRow (b o : Nat) : ∀ (cs : List Value) (h : Heap) (i c : Nat), rd (setRow h ⟨b, o, none⟩ cs i) c = if c = b then put (rd h b) (o + i) cs else rd h c := by
  intro cs; induction cs with
  | nil => intro h i c; simp only [setRow, put]; split <;> simp_all
  | cons v r ih =>
    intro h i c
    simp only [setRow, add_mk, ih, rd_setOf, put]
    by_cases hc : c = b
    · subst hc; simp [Nat.add_assoc]
    · simp [hc]
theorem rd_setRow_at (b o : Nat) (cs : List Value) (h : Heap) (i : Nat) : rd (setRow h ⟨b, o, none⟩ cs i) b = put (rd h b) (o + i) cs := by rw [rd_setRow, if_pos rfl]
theorem rd_setRow_ne {b o : Nat} {cs : List Value} {h : Heap} {i c : Nat} (hc : c ≠ b) : rd (setRow h ⟨b, o, none⟩ cs i) c = rd h c := by rw [rd_setRow, if_neg hc]
theorem own_setRow {b o c : Nat} : ∀ {cs : List Value} {h : Heap} {i : Nat}, Own h c → Own (setRow h ⟨b, o, none⟩ cs i) c := by
  intro cs; induction cs with
  | nil => intro h i w; exact w
  | cons v r ih => intro h i w; simp only [setRow, add_mk]; exact ih (own_setOf w)
theorem Fr.setRow {F : Nat → Prop} {h : Heap} {b o : Nat} (hb : F b ∨ h.size ≤ b) : ∀ {cs : List Value} {h' : Heap} {i : Nat}, Fr F h h' → Fr F h (setRow h' ⟨b, o, none⟩ cs i) := by
  intro cs; induction cs with
  | nil => intro h' i f; exact f
  | cons v r ih => intro h' i f; simp only [Wx.setRow, add_mk]; exact ih (f.setOf hb)

/-! what the walk asks -/
theorem cellOf_rd (h : Heap) (b o : Nat) : cellOf h ⟨b, o, none⟩ = (rd h b)[o]? := by
  simp only [cellOf, rd]; cases h[b]? with
  | none => simp
  | some x => cases x <;> simp
theorem cellOf_some {h : Heap} {a : Addr} {v : Value} (e : cellOf h a = some v) : a.spot = none ∧ (rd h a.block)[a.off]? = some v := by
  obtain ⟨b, o, s⟩ := a
  cases s with
  | none => exact ⟨rfl, by rw [cellOf_rd] at e; exact e⟩
  | some s =>
    exfalso; revert e
    simp only [cellOf]; cases h[b]? with
    | none => simp
    | some x => cases x <;> simp
theorem wr_rd {h : Heap} {b o : Nat} (w : Own h b) (hl : o < (rd h b).length) : Wr h ⟨b, o, none⟩ := by
  refine ⟨⟨(rd h b)[o], by rw [cellOf_rd]; simp [hl]⟩, ?_⟩
  obtain ⟨c, T, e⟩ := w
  simp [frozenOf, e]
theorem wrN_rd {h : Heap} {b o n : Nat} (w : Own h b) (hl : o + n ≤ (rd h b).length) : WrN h ⟨b, o, none⟩ n := by
  intro i hi; rw [add_mk]; exact wr_rd w (by omega)
theorem stRow_rd {h : Heap} {b o : Nat} {cs : List Value} {n : Nat} (w : Own h b) (hn : cs.length = n) (h1 : ∀ v ∈ cs, v.oneCell' = true) (hl : o + n ≤ (rd h b).length) : StRow h ⟨b, o, none⟩ cs n :=
  ⟨hn, h1, wrN_rd w hl⟩
theorem cells_rd {h : Heap} {b o : Nat} {xs : List Value} (e : ((rd h b).drop o).take xs.length = xs) : Cells h ⟨b, o, none⟩ xs := by
  intro i v hv
  rw [add_mk, cellOf_rd]
  rw [← e, List.getElem?_take] at hv
  split at hv
  · rw [List.getElem?_drop] at hv; exact hv
  · exact absurd hv (by simp)
theorem cells_of {h : Heap} {b o : Nat} {xs : List Value} (c : Cells h ⟨b, o, none⟩ xs) : ((rd h b).drop o).take xs.length = xs := by
  apply List.ext_getElem?
  intro i
  rw [List.getElem?_take]
  split
  · rename_i hi
    have := c i xs[i] (by simp [hi])
    rw [add_mk, cellOf_rd] at this
    rw [List.getElem?_drop, this]; simp [hi]
  · rename_i hi; rw [List.getElem?_eq_none (by omega)]
/-- the cells at a place stay -/
theorem Cells.fr {F : Nat → Prop} {h h' : Heap} (f : Fr F h h') {a : Addr} {xs : List Value} (c : Cells h a xs) (hF : ¬ F a.block) : Cells h' a xs := by
  intro i v hv
  have e := c i v hv
  obtain ⟨h1, h2⟩ := cellOf_some e
  have hb : (a.add i).block = a.block := by unfold Addr.add; split <;> rfl
  have hl := rd_lt h2
  rw [hb] at hl
  have : cellOf h' (a.add i) = cellOf h (a.add i) := by simp only [cellOf, hb, f.same _ hl hF]
  rw [this]; exact e
theorem SlCells.fr {F : Nat → Prop} {h h' : Heap} (f : Fr F h h') {a : Option Addr} {xs : List Value} (c : SlCells h a xs) (hF : ∀ p, a = some p → ¬ F p.block) : SlCells h' a xs := by
  cases a with
  | none => exact c
  | some p => exact Cells.fr f c (hF p rfl)
theorem StrAt.fr {F : Nat → Prop} {h h' : Heap} (f : Fr F h h') {a : Option Addr} {l : Nat} {bs : List UInt8} (c : StrAt h a l bs) (hF : ∀ p, a = some p → ¬ F p.block) : StrAt h' a l bs :=
  ⟨c.1, SlCells.fr f c.2 hF⟩
theorem Cells.take {h : Heap} {a : Addr} {xs : List Value} (c : Cells h a xs) (n : Nat) : Cells h a (xs.take n) := by
  intro i v hv; rw [List.getElem?_take] at hv; split at hv
  · exact c i v hv
  · exact absurd hv (by simp)
theorem Cells.nil (h : Heap) (a : Addr) : Cells h a [] := by intro i v hv; simp at hv
theorem Cells.drop {h : Heap} {a : Addr} {xs : List Value} (c : Cells h a xs) (n : Nat) : Cells h (a.add n) (xs.drop n) := by
  intro i v hv
  rw [List.getElem?_drop] at hv
  have := c (n + i) v hv
  by_cases hi : i = 0
  · subst hi; rw [Addr.add_zero]; exact this
  · by_cases hn : n = 0
    · subst hn; rw [Addr.add_zero]; simpa using this
    · rw [Addr.add_add]; exact this
theorem SlCells.take {h : Heap} {a : Option Addr} {xs : List Value} (c : SlCells h a xs) (n : Nat) : SlCells h a (xs.take n) := by
  cases a with
  | none => have c : xs = [] := c; subst c; simp [SlCells]
  | some p => exact Cells.take c n
theorem SlCells.drop {h : Heap} {a : Option Addr} {xs : List Value} (c : SlCells h a xs) (n : Nat) : SlCells h (a.map (·.add n)) (xs.drop n) := by
  cases a with
  | none => have c : xs = [] := c; subst c; simp [SlCells]
  | some p => exact Cells.drop c n
theorem StrAt.take {h : Heap} {a : Option Addr} {l : Nat} {bs : List UInt8} (c : StrAt h a l bs) {n : Nat} (hn : n ≤ l) : StrAt h a n (bs.take n) :=
  ⟨by rw [List.length_take, c.1]; omega, by rw [List.map_take]; exact SlCells.take c.2 n⟩
theorem StrAt.drop {h : Heap} {a : Option Addr} {l : Nat} {bs : List UInt8} (c : StrAt h a l bs) (n : Nat) : StrAt h (a.map (·.add n)) (l - n) (bs.drop n) :=
  ⟨by rw [List.length_drop, c.1], by rw [List.map_drop]; exact SlCells.drop c.2 n⟩
theorem StrAt.nil (h : Heap) (a : Option Addr) : StrAt h a 0 [] := ⟨rfl, by cases a with | none => rfl | some p => exact Cells.nil h p⟩

/-! bytes -/
theorem bv_inj {a b : UInt8} (h : bv a = bv b) : a = b := by
  simp only [bv, Value.int.injEq, true_and] at h
  exact UInt8.toNat_inj.mp (by exact_mod_cast h)
theorem map_bv_inj {xs ys : List UInt8} (h : xs.map bv = ys.map bv) : xs = ys := (List.map_inj_right (fun _ _ e => bv_inj e)).mp h
theorem bv_one (bs : List UInt8) : ∀ v ∈ bs.map bv, v.oneCell' = true := by
  intro v hv; obtain ⟨b, _, rfl⟩ := List.mem_map.mp hv; rfl
theorem StrAt.inj {h : Heap} {a : Option Addr} {l : Nat} {xs ys : List UInt8} (c : StrAt h a l xs) (d : StrAt h a l ys) : xs = ys := by
  obtain ⟨c1, c2⟩ := c; obtain ⟨d1, d2⟩ := d
  cases a with
  | none =>
    have c2 : xs.map bv = [] := c2
    have d2 : ys.map bv = [] := d2
    exact map_bv_inj (c2.trans d2.symm)
  | some p =>
    apply map_bv_inj
    apply List.ext_getElem?
    intro i
    rcases Nat.lt_or_ge i l with hi | hi
    · have e1 := c2 i ((xs.map bv)[i]'(by rw [List.length_map]; omega)) (List.getElem?_eq_getElem _)
      have e2 := d2 i ((ys.map bv)[i]'(by rw [List.length_map]; omega)) (List.getElem?_eq_getElem _)
      rw [e1] at e2
      rw [List.getElem?_eq_getElem (by rw [List.length_map]; omega), List.getElem?_eq_getElem (by rw [List.length_map]; omega)]; exact e2
    · rw [List.getElem?_eq_none (by rw [List.length_map]; omega), List.getElem?_eq_none (by rw [List.length_map]; omega)]
theorem toList_mkStr (bs : List UInt8) : ByteArray.toList (mkStr bs) = bs := by
  rw [mkStr, show (⟨⟨bs⟩⟩ : ByteArray) = ⟨bs.toArray⟩ from rfl]
  simp
end Go.Proofs.Ytnbfaokpaiiojaa.Hp
