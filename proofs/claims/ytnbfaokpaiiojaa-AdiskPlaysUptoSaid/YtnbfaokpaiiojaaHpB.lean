import Derived.Test.YtnbfaokpaiiojaaWxK
/-
  A HEAP AS A ROW OF LISTS: what a block holds, what stays, what may be written.
-/
namespace Go.Proofs.Ytnbfaokpaiiojaa.Hp
open Go Go.Proofs Go.Proofs.Ytnbfaokpaiiojaa.Wx

/-- what block b holds -/
def rd (h : Heap) (b : Nat) : List Value :=
  match h[b]? with
  | some (.cells c _ _) => c.toList
  | _ => []
/-- a block of cells, none of them frozen -/
def Own (h : Heap) (b : Nat) : Prop := ∃ c T f, h[b]? = some (.cells c T f) ∧ (f = (0, 0) ∨ c.size ≤ f.1)
/-- h' has come of h; of the blocks of h only those in F may differ -/
structure Fr (F : Nat → Prop) (h h' : Heap) : Prop where
  size : h.size ≤ h'.size
  same : ∀ b, b < h.size → ¬ F b → h'[b]? = h[b]?
def No : Nat → Prop := fun _ => False
def From (n : Nat) : Nat → Prop := fun b => n ≤ b

theorem Fr.rd {F : Nat → Prop} {h h' : Heap} (f : Fr F h h') {b : Nat} (hb : b < h.size) (hF : ¬ F b) : rd h' b = rd h b := by
  simp only [Hp.rd, f.same b hb hF]
theorem Fr.own {F : Nat → Prop} {h h' : Heap} (f : Fr F h h') {b : Nat} (hb : b < h.size) (hF : ¬ F b) (o : Own h b) : Own h' b := by
  obtain ⟨c, T, z, e, k⟩ := o; exact ⟨c, T, z, by rw [f.same b hb hF]; exact e, k⟩
theorem Fr.refl (F : Nat → Prop) (h : Heap) : Fr F h h := ⟨Nat.le_refl _, fun _ _ _ => rfl⟩
theorem Fr.trans {F G : Nat → Prop} {h1 h2 h3 : Heap} (f : Fr F h1 h2) (g : Fr G h2 h3) (hs : ∀ b, b < h1.size → G b → F b) : Fr F h1 h3 :=
  ⟨Nat.le_trans f.size g.size, fun b hb hF => (g.same b (Nat.lt_of_lt_of_le hb f.size) (fun x => hF (hs b hb x))).trans (f.same b hb hF)⟩
theorem Fr.no {F : Nat → Prop} {h1 h2 h3 : Heap} (f : Fr F h1 h2) (g : Fr No h2 h3) : Fr F h1 h3 := f.trans g fun _ _ x => x.elim
theorem Fr.mono {F G : Nat → Prop} {h h' : Heap} (f : Fr F h h') (hs : ∀ b, b < h.size → F b → G b) : Fr G h h' :=
  ⟨f.size, fun b hb hG => f.same b hb fun x => hG (hs b hb x)⟩
theorem Own.lt {h : Heap} {b : Nat} (o : Own h b) : b < h.size := by
  obtain ⟨c, T, z, e, _⟩ := o
  rcases Nat.lt_or_ge b h.size with hl | hl
  · exact hl
  · rw [Array.getElem?_eq_none hl] at e; exact absurd e (by simp)
theorem rd_lt {h : Heap} {b o : Nat} {v : Value} (e : (rd h b)[o]? = some v) : b < h.size := by
  rcases Nat.lt_or_ge b h.size with hl | hl
  · exact hl
  · simp only [rd, Array.getElem?_eq_none hl] at e; simp at e

/-! newO -/
theorem size_newO (h : Heap) (cs : List Value) (t : Nat) : (newO h cs t).size = h.size + 1 := by simp [newO]
theorem get_newO (h : Heap) (cs : List Value) (t b : Nat) : (newO h cs t)[b]? = if b = h.size then some (.cells ⟨cs⟩ t) else h[b]? := by
  simp [newO, Array.getElem?_push]
theorem rd_newO (h : Heap) (cs : List Value) (t b : Nat) : rd (newO h cs t) b = if b = h.size then cs else rd h b := by
  by_cases hb : b = h.size
  · simp only [rd, get_newO, if_pos hb]
  · simp only [rd, get_newO, if_neg hb]
theorem rd_newO_at (h : Heap) (cs : List Value) (t : Nat) : rd (newO h cs t) h.size = cs := by rw [rd_newO, if_pos rfl]
theorem rd_newO_ne {h : Heap} {cs : List Value} {t b : Nat} (hb : b ≠ h.size) : rd (newO h cs t) b = rd h b := by rw [rd_newO, if_neg hb]
theorem own_newO_at (h : Heap) (cs : List Value) (t : Nat) : Own (newO h cs t) h.size := ⟨_, _, _, by rw [get_newO, if_pos rfl], .inl rfl⟩
theorem own_newO {h : Heap} {cs : List Value} {t b : Nat} (o : Own h b) : Own (newO h cs t) b := by
  have := o.lt; obtain ⟨c, T, z, e, k⟩ := o; exact ⟨c, T, z, by rw [get_newO, if_neg (by omega)]; exact e, k⟩
theorem Fr.newO {F : Nat → Prop} {h h' : Heap} (f : Fr F h h') (cs : List Value) (t : Nat) : Fr F h (newO h' cs t) :=
  ⟨by rw [size_newO]; have := f.size; omega, fun b hb hF => by rw [get_newO, if_neg (by have := f.size; omega)]; exact f.same b hb hF⟩
theorem fr_newO {F : Nat → Prop} {h : Heap} (cs : List Value) (t : Nat) : Fr F h (Wx.newO h cs t) := (Fr.refl F h).newO cs t

/-! writes -/
theorem size_setOf (h : Heap) (a : Addr) (v : Value) : (setOf h a v).size = h.size := by simp [setOf]
theorem get_setOf (h : Heap) (b o : Nat) (v : Value) (c : Nat) : (setOf h ⟨b, o, none⟩ v)[c]? = if c = b then (h[c]?).map (fun x => match x with | .cells cs e f => .cells (cs.setIfInBounds o v) e f | x => x) else h[c]? := by
  simp only [setOf, Array.getElem?_modify, Option.isSome_none, Bool.false_eq_true, if_false]
  by_cases hc : c = b
  · subst hc; simp; rfl
  · simp [hc, Ne.symm hc]
theorem rd_setOf (h : Heap) (b o : Nat) (v : Value) (c : Nat) : rd (setOf h ⟨b, o, none⟩ v) c = if c = b then (rd h b).set o v else rd h c := by
  simp only [rd, get_setOf]
  by_cases hc : c = b
  · subst hc; simp only [if_pos]; cases h[c]? with
    | none => simp
    | some x => cases x <;> simp
  · simp only [if_neg hc]
theorem rd_setOf_at (h : Heap) (b o : Nat) (v : Value) : rd (setOf h ⟨b, o, none⟩ v) b = (rd h b).set o v := by rw [rd_setOf, if_pos rfl]
theorem rd_setOf_ne {h : Heap} {b o : Nat} {v : Value} {c : Nat} (hc : c ≠ b) : rd (setOf h ⟨b, o, none⟩ v) c = rd h c := by rw [rd_setOf, if_neg hc]
theorem own_setOf {h : Heap} {b o : Nat} {v : Value} {c : Nat} (w : Own h c) : Own (setOf h ⟨b, o, none⟩ v) c := by
  obtain ⟨cs, T, z, e, k⟩ := w
  by_cases hc : c = b
  · exact ⟨cs.setIfInBounds o v, T, z, by rw [get_setOf, if_pos hc, e]; rfl, by rw [Array.size_setIfInBounds]; exact k⟩
  · exact ⟨cs, T, z, by rw [get_setOf, if_neg hc]; exact e, k⟩
theorem Fr.setOf {F : Nat → Prop} {h h' : Heap} (f : Fr F h h') {b o : Nat} {v : Value} (hb : F b ∨ h.size ≤ b) : Fr F h (setOf h' ⟨b, o, none⟩ v) :=
  ⟨by rw [size_setOf]; exact f.size, fun c hc hF => by
    rw [get_setOf, if_neg (by rintro rfl; rcases hb with hb | hb; exact hF hb; omega)]; exact f.same c hc hF⟩
/-- overwrite from o on -/
def put (xs : List Value) (o : Nat) : List Value → List Value
  | [] => xs
  | v :: r => put (xs.set o v) (o + 1) r
theorem put_length (cs : List Value) : ∀ (xs : List Value) (o : Nat), (put xs o cs).length = xs.length := by
  induction cs with
  | nil => intros; rfl
  | cons v r ih => intro xs o; simp [put, ih]
theorem put_get (cs : List Value) : ∀ (xs : List Value) (o i : Nat), o + cs.length ≤ xs.length → (put xs o cs)[i]? = if o ≤ i ∧ i < o + cs.length then cs[i - o]? else xs[i]? := by
  induction cs with
  | nil => intro xs o i h; rw [if_neg (by rw [List.length_nil]; omega)]; rfl
  | cons v r ih =>
    intro xs o i h
    simp only [List.length_cons] at h
    simp only [put]
    rw [ih (xs.set o v) (o + 1) i (by simp; omega)]
    by_cases h1 : i = o
    · subst h1
      rw [if_neg (by omega), if_pos ⟨Nat.le_refl _, by rw [List.length_cons]; omega⟩, List.getElem?_set, if_pos rfl, if_pos (by omega), Nat.sub_self]; rfl
    · by_cases h2 : o + 1 ≤ i ∧ i < o + 1 + r.length
      · rw [if_pos h2, if_pos ⟨by omega, by rw [List.length_cons]; omega⟩]
        obtain ⟨j, rfl⟩ : ∃ j, i = o + 1 + j := ⟨i - (o + 1), by omega⟩
        rw [show o + 1 + j - o = j + 1 by omega, show o + 1 + j - (o + 1) = j by omega]; rfl
      · rw [if_neg h2, if_neg (by simp only [List.length_cons]; omega), List.getElem?_set_ne (by omega)]
theorem put_eq (cs xs : List Value) (o : Nat) (h : o + cs.length ≤ xs.length) : put xs o cs = xs.take o ++ cs ++ xs.drop (o + cs.length) := by
  apply List.ext_getElem?
  intro i
  rw [put_get _ _ _ _ h]
  by_cases h1 : i < o
  · rw [if_neg (by omega), List.append_assoc, List.getElem?_append_left (by rw [List.length_take]; omega), List.getElem?_take_of_lt h1]
  · by_cases h2 : i < o + cs.length
    · rw [if_pos ⟨by omega, h2⟩, List.getElem?_append_left (by simp; omega), List.getElem?_append_right (by rw [List.length_take]; omega), List.length_take, Nat.min_eq_left (by omega)]
    · rw [if_neg (by omega), List.getElem?_append_right (by simp; omega), List.getElem?_drop]
      congr 1; simp; omega
theorem put_all (cs xs : List Value) (h : cs.length = xs.length) : put xs 0 cs = cs := by rw [put_eq _ _ _ (by omega)]; simp [h]
theorem add_mk (b o n : Nat) : Addr.add ⟨b, o, none⟩ n = ⟨b, o + n, none⟩ := by
  by_cases hn : n = 0
  · subst hn; rfl
  · simp [Addr.add, hn]
theorem size_setRow (a : Addr) : ∀ (cs : List Value) (h : Heap) (i : Nat), (setRow h a cs i).size = h.size := by
  intro cs; induction cs with
  | nil => intros; rfl
  | cons v r ih => intro h i; simp only [setRow, ih, size_setOf]
theorem rd_setRow (b o : Nat) : ∀ (cs : List Value) (h : Heap) (i c : Nat), rd (setRow h ⟨b, o, none⟩ cs i) c = if c = b then put (rd h b) (o + i) cs else rd h c := by
  intro cs; induction cs with
  | nil => intro h i c; simp only [setRow, put]; split <;> simp_all
  | cons v r ih =>
    intro h i c
    simp only [setRow, add_mk, ih, rd_setOf, put]
    by_cases hc : c = b
    · subst hc; simp [Nat.add_assoc]
    · simp [hc]
theorem rd_setRow_at (b o : Nat) (cs : List Value) (h : Heap) (i : Nat) : rd (setRow h ⟨b, o, none⟩ cs i) b = put (rd h b) (o + i) cs := by rw [rd_setRow, if_pos rfl]
theorem rd_setRow_ne {b o : Nat} {cs : List Value} {h : Heap} {i c : Nat} (hc : c ≠ b) : rd (setRow h ⟨b, o, none⟩ cs i) c = rd h c := by rw [rd_setRow, if_neg hc]
theorem own_setRow {b o c : Nat} : ∀ {cs : List Value} {h : Heap} {i : Nat}, Own h c → Own (setRow h ⟨b, o, none⟩ cs i) c := by
  intro cs; induction cs with
  | nil => intro h i w; exact w
  | cons v r ih => intro h i w; simp only [setRow, add_mk]; exact ih (own_setOf w)
theorem Fr.setRow {F : Nat → Prop} {h : Heap} {b o : Nat} (hb : F b ∨ h.size ≤ b) : ∀ {cs : List Value} {h' : Heap} {i : Nat}, Fr F h h' → Fr F h (setRow h' ⟨b, o, none⟩ cs i) := by
  intro cs; induction cs with
  | nil => intro h' i f; exact f
  | cons v r ih => intro h' i f; simp only [Wx.setRow, add_mk]; exact ih (f.setOf hb)

/-! what the walk asks -/
theorem cellOf_rd (h : Heap) (b o : Nat) : cellOf h ⟨b, o, none⟩ = (rd h b)[o]? := by
  simp only [cellOf, rd]; cases h[b]? with
  | none => simp
  | some x => cases x <;> simp
theorem cellOf_some {h : Heap} {a : Addr} {v : Value} (e : cellOf h a = some v) : a.spot = none ∧ (rd h a.block)[a.off]? = some v := by
  obtain ⟨b, o, s⟩ := a
  cases s with
  | none => exact ⟨rfl, by rw [cellOf_rd] at e; exact e⟩
  | some s =>
    exfalso; revert e
    simp only [cellOf]; cases h[b]? with
    | none => simp
    | some x => cases x <;> simp
theorem wr_rd {h : Heap} {b o : Nat} (w : Own h b) (hl : o < (rd h b).length) : Wr h ⟨b, o, none⟩ := by
  refine ⟨⟨(rd h b)[o], by rw [cellOf_rd]; simp [hl]⟩, ?_⟩
  obtain ⟨c, T, z, e, k⟩ := w
  have hc : o < c.size := by simpa [rd, e] using hl
  rcases k with rfl | k
  · simp [frozenOf, e]
  · obtain ⟨lo, hi⟩ := z
    have k : c.size ≤ lo := k
    simp [frozenOf, e]; omega
theorem wrN_rd {h : Heap} {b o n : Nat} (w : Own h b) (hl : o + n ≤ (rd h b).length) : WrN h ⟨b, o, none⟩ n := by
  intro i hi; rw [add_mk]; exact wr_rd w (by omega)
theorem stRow_rd {h : Heap} {b o : Nat} {cs : List Value} {n : Nat} (w : Own h b) (hn : cs.length = n) (h1 : ∀ v ∈ cs, v.oneCell' = true) (hl : o + n ≤ (rd h b).length) : StRow h ⟨b, o, none⟩ cs n :=
  ⟨hn, h1, wrN_rd w hl⟩
theorem cells_rd {h : Heap} {b o : Nat} {xs : List Value} (e : ((rd h b).drop o).take xs.length = xs) : Cells h ⟨b, o, none⟩ xs := by
  intro i v hv
  rw [add_mk, cellOf_rd]
  rw [← e, List.getElem?_take] at hv
  split at hv
  · rw [List.getElem?_drop] at hv; exact hv
  · exact absurd hv (by simp)
theorem cells_of {h : Heap} {b o : Nat} {xs : List Value} (c : Cells h ⟨b, o, none⟩ xs) : ((rd h b).drop o).take xs.length = xs := by
  apply List.ext_getElem?
  intro i
  rw [List.getElem?_take]
  split
  · rename_i hi
    have := c i xs[i] (by simp [hi])
    rw [add_mk, cellOf_rd] at this
    rw [List.getElem?_drop, this]; simp [hi]
  · rename_i hi; rw [List.getElem?_eq_none (by omega)]
/-- the cells at a place stay -/
theorem Cells.fr {F : Nat → Prop} {h h' : Heap} (f : Fr F h h') {a : Addr} {xs : List Value} (c : Cells h a xs) (hF : ¬ F a.block) : Cells h' a xs := by
  intro i v hv
  have e := c i v hv
  obtain ⟨h1, h2⟩ := cellOf_some e
  have hb : (a.add i).block = a.block := by unfold Addr.add; split <;> rfl
  have hl := rd_lt h2
  rw [hb] at hl
  have : cellOf h' (a.add i) = cellOf h (a.add i) := by simp only [cellOf, hb, f.same _ hl hF]
  rw [this]; exact e
theorem SlCells.fr {F : Nat → Prop} {h h' : Heap} (f : Fr F h h') {a : Option Addr} {xs : List Value} (c : SlCells h a xs) (hF : ∀ p, a = some p → ¬ F p.block) : SlCells h' a xs := by
  cases a with
  | none => exact c
  | some p => exact Cells.fr f c (hF p rfl)
theorem StrAt.fr {F : Nat → Prop} {h h' : Heap} (f : Fr F h h') {a : Option Addr} {l : Nat} {bs : List UInt8} (c : StrAt h a l bs) (hF : ∀ p, a = some p → ¬ F p.block) : StrAt h' a l bs :=
  ⟨c.1, SlCells.fr f c.2 hF⟩
theorem Cells.take {h : Heap} {a : Addr} {xs : List Value} (c : Cells h a xs) (n : Nat) : Cells h a (xs.take n) := by
  intro i v hv; rw [List.getElem?_take] at hv; split at hv
  · exact c i v hv
  · exact absurd hv (by simp)
theorem Cells.nil (h : Heap) (a : Addr) : Cells h a [] := by intro i v hv; simp at hv
theorem Cells.drop {h : Heap} {a : Addr} {xs : List Value} (c : Cells h a xs) (n : Nat) : Cells h (a.add n) (xs.drop n) := by
  intro i v hv
  rw [List.getElem?_drop] at hv
  have := c (n + i) v hv
  by_cases hi : i = 0
  · subst hi; rw [Addr.add_zero]; exact this
  · by_cases hn : n = 0
    · subst hn; rw [Addr.add_zero]; simpa using this
    · rw [Addr.add_add]; exact this
theorem SlCells.take {h : Heap} {a : Option Addr} {xs : List Value} (c : SlCells h a xs) (n : Nat) : SlCells h a (xs.take n) := by
  cases a with
  | none => have c : xs = [] := c; subst c; simp [SlCells]
  | some p => exact Cells.take c n
theorem SlCells.drop {h : Heap} {a : Option Addr} {xs : List Value} (c : SlCells h a xs) (n : Nat) : SlCells h (a.map (·.add n)) (xs.drop n) := by
  cases a with
  | none => have c : xs = [] := c; subst c; simp [SlCells]
  | some p => exact Cells.drop c n
theorem StrAt.take {h : Heap} {a : Option Addr} {l : Nat} {bs : List UInt8} (c : StrAt h a l bs) {n : Nat} (hn : n ≤ l) : StrAt h a n (bs.take n) :=
  ⟨by rw [List.length_take, c.1]; omega, by rw [List.map_take]; exact SlCells.take c.2 n⟩
theorem StrAt.drop {h : Heap} {a : Option Addr} {l : Nat} {bs : List UInt8} (c : StrAt h a l bs) (n : Nat) : StrAt h (a.map (·.add n)) (l - n) (bs.drop n) :=
  ⟨by rw [List.length_drop, c.1], by rw [List.map_drop]; exact SlCells.drop c.2 n⟩
theorem StrAt.nil (h : Heap) (a : Option Addr) : StrAt h a 0 [] := ⟨rfl, by cases a with | none => rfl | some p => exact Cells.nil h p⟩

/-! bytes -/
theorem bv_inj {a b : UInt8} (h : bv a = bv b) : a = b := by
  simp only [bv, Value.int.injEq, true_and] at h
  exact UInt8.toNat_inj.mp (by exact_mod_cast h)
theorem map_bv_inj {xs ys : List UInt8} (h : xs.map bv = ys.map bv) : xs = ys := (List.map_inj_right (fun _ _ e => bv_inj e)).mp h
theorem bv_one (bs : List UInt8) : ∀ v ∈ bs.map bv, v.oneCell' = true := by
  intro v hv; obtain ⟨b, _, rfl⟩ := List.mem_map.mp hv; rfl
theorem StrAt.inj {h : Heap} {a : Option Addr} {l : Nat} {xs ys : List UInt8} (c : StrAt h a l xs) (d : StrAt h a l ys) : xs = ys := by
  obtain ⟨c1, c2⟩ := c; obtain ⟨d1, d2⟩ := d
  cases a with
  | none =>
    have c2 : xs.map bv = [] := c2
    have d2 : ys.map bv = [] := d2
    exact map_bv_inj (c2.trans d2.symm)
  | some p =>
    apply map_bv_inj
    apply List.ext_getElem?
    intro i
    rcases Nat.lt_or_ge i l with hi | hi
    · have e1 := c2 i ((xs.map bv)[i]'(by rw [List.length_map]; omega)) (List.getElem?_eq_getElem _)
      have e2 := d2 i ((ys.map bv)[i]'(by rw [List.length_map]; omega)) (List.getElem?_eq_getElem _)
      rw [e1] at e2
      rw [List.getElem?_eq_getElem (by rw [List.length_map]; omega), List.getElem?_eq_getElem (by rw [List.length_map]; omega)]; exact e2
    · rw [List.getElem?_eq_none (by rw [List.length_map]; omega), List.getElem?_eq_none (by rw [List.length_map]; omega)]
theorem toList_mkStr (bs : List UInt8) : ByteArray.toList (mkStr bs) = bs := by
  rw [mkStr, show (⟨⟨bs⟩⟩ : ByteArray) = ⟨bs.toArray⟩ from rfl]
  simp
end Go.Proofs.Ytnbfaokpaiiojaa.Hp
/-
  ROWS OF ONE'S OWN: slices that may be written and appended to; sums that do not leave their kind.
-/
namespace Go.Proofs.Ytnbfaokpaiiojaa.Hp
open Go Go.Proofs Go.Proofs.Ytnbfaokpaiiojaa.Wx

theorem wrap_i64 {n : Int} (h1 : -9223372036854775808 ≤ n) (h2 : n ≤ 9223372036854775807) : IntKind.wrap .i64 n = n := by
  simp only [IntKind.wrap, IntKind.bits, IntKind.signed, Bool.true_and, ge_iff_le, decide_eq_true_eq, Nat.reduceSub, Int.reducePow]
  split <;> omega
theorem wrap_u8 {n : Int} (h1 : 0 ≤ n) (h2 : n ≤ 255) : IntKind.wrap .u8 n = n := by
  simp only [IntKind.wrap, IntKind.bits, IntKind.signed, Bool.false_and, Bool.false_eq_true, if_false, Int.reducePow]
  omega
theorem HCalls.mono {P : Program} {g : Nat} {args : List Value} {h : Heap} {k k' : Value → Heap → Prop} (H : HCalls P g args h k) (hk : ∀ v h', k v h' → k' v h') : HCalls P g args h k' := by
  obtain ⟨c, H⟩ := H
  refine ⟨c, fun w hw => (H w hw).mono fun e w' ⟨v, e1, e2, e3⟩ => ⟨v, e1, e2, hk v _ e3⟩⟩

/-- l elements of ec cells each: xs, with room for c, in a block of F -/
def Sl (h : Heap) (ec : Nat) (a : Option Addr) (l c : Nat) (xs : List Value) (F : Nat → Prop) : Prop :=
  xs.length = l * ec ∧ match a with
    | none => l = 0 ∧ c = 0
    | some p => p.spot = none ∧ F p.block ∧ Own h p.block ∧ l ≤ c ∧ ((rd h p.block).drop p.off).take xs.length = xs ∧ p.off + c * ec ≤ (rd h p.block).length

theorem Sl.nil (h : Heap) (ec : Nat) (F : Nat → Prop) : Sl h ec none 0 0 [] F := ⟨by simp, rfl, rfl⟩
theorem Sl.mono {h : Heap} {ec : Nat} {a : Option Addr} {l c : Nat} {xs : List Value} {F G : Nat → Prop} (s : Sl h ec a l c xs F) (hs : ∀ b, F b → G b) : Sl h ec a l c xs G := by
  obtain ⟨h1, h2⟩ := s
  refine ⟨h1, ?_⟩
  cases a with
  | none => exact h2
  | some p => obtain ⟨a1, a2, a3⟩ := h2; exact ⟨a1, hs _ a2, a3⟩
theorem Sl.fr {h h' : Heap} {ec : Nat} {a : Option Addr} {l c : Nat} {xs : List Value} {F G : Nat → Prop} (f : Fr G h h') (s : Sl h ec a l c xs F) (hs : ∀ b, b < h.size → F b → ¬ G b) : Sl h' ec a l c xs F := by
  obtain ⟨h1, h2⟩ := s
  refine ⟨h1, ?_⟩
  cases a with
  | none => exact h2
  | some p =>
    obtain ⟨a1, a2, a3, a4, a5, a6⟩ := h2
    have hG := hs _ a3.lt a2
    refine ⟨a1, a2, f.own a3.lt hG a3, a4, ?_, ?_⟩
    · rw [f.rd a3.lt hG]; exact a5
    · rw [f.rd a3.lt hG]; exact a6
theorem Sl.cells {h : Heap} {ec : Nat} {a : Option Addr} {l c : Nat} {xs : List Value} {F : Nat → Prop} (s : Sl h ec a l c xs F) : SlCells h a xs := by
  obtain ⟨h1, h2⟩ := s
  cases a with
  | none => obtain ⟨rfl, _⟩ := h2; rw [Nat.zero_mul] at h1; exact List.length_eq_zero_iff.mp h1
  | some p =>
    obtain ⟨b, o, s⟩ := p
    obtain ⟨a1, a2, a3, a4, a5, a6⟩ := h2
    have a1 : s = none := a1
    subst a1
    exact cells_rd a5
theorem Sl.str {h : Heap} {a : Option Addr} {l c : Nat} {bs : List UInt8} {F : Nat → Prop} (s : Sl h 1 a l c (bs.map bv) F) : StrAt h a l bs :=
  ⟨by have := s.1; rw [List.length_map] at this; omega, s.cells⟩
theorem Sl.le {h : Heap} {ec : Nat} {a : Option Addr} {l c : Nat} {xs : List Value} {F : Nat → Prop} (s : Sl h ec a l c xs F) : l ≤ c := by
  obtain ⟨_, h2⟩ := s
  cases a with
  | none => omega
  | some p => exact h2.2.2.2.1
/-- a new block -/
theorem Sl.new (h : Heap) (ec t l c : Nat) (xs zs : List Value) (F : Nat → Prop) (hF : F h.size) (hx : xs.length = l * ec) (hl : l ≤ c) (hz : zs.length = (c - l) * ec) :
    Sl (newO h (xs ++ zs) t) ec (some ⟨h.size, 0, none⟩) l c xs F := by
  refine ⟨hx, rfl, hF, own_newO_at _ _ _, hl, ?_, ?_⟩
  · simp only [rd_newO_at, List.drop_zero, List.take_left]
  · simp only [rd_newO_at, List.length_append, hx, hz, Nat.zero_add]
    rw [← Nat.add_mul]; exact Nat.mul_le_mul_right _ (by omega)
theorem take_put (X new : List Value) (o m : Nat) (h : o + m + new.length ≤ X.length) : ((put X (o + m) new).drop o).take (m + new.length) = (X.drop o).take m ++ new := by
  apply List.ext_getElem?
  intro i
  rw [List.getElem?_take]
  have hl : ((X.drop o).take m).length = m := by rw [List.length_take, List.length_drop]; omega
  by_cases h1 : i < m
  · rw [if_pos (by omega), List.getElem?_append_left (by omega), List.getElem?_drop, put_get _ _ _ _ h, if_neg (by omega), List.getElem?_take, if_pos h1, List.getElem?_drop]
  · by_cases h2 : i < m + new.length
    · rw [if_pos h2, List.getElem?_append_right (by omega), hl, List.getElem?_drop, put_get _ _ _ _ h, if_pos (by omega)]
      congr 1; omega
    · rw [if_neg h2, List.getElem?_eq_none (by rw [List.length_append]; omega)]
/-- append to a row of one's own -/
theorem append_own {elem : TI} {e : Nat} {a : Option Addr} {l c n : Nat} {xs new : List Value} {h : Heap} {F : Nat → Prop} {k : Option Addr → Nat → Nat → Heap → Prop}
    (s : Sl h elem.cells a l c xs F) (hn : new.length = n * elem.cells) (hz : elem.zero.length = elem.cells) (hb : (l + n) * elem.bytes ≤ 140737488355328) (hb' : l + n ≤ 140737488355328)
    (hk : ∀ a' c' h', Fr F h h' → Sl h' elem.cells a' (l + n) c' (xs ++ new) (fun b => F b ∨ h.size ≤ b) → k a' (l + n) c' h') :
    AppendP elem e a l c n new h k := by
  refine ⟨xs, s.1, s.cells, hb, hb', fun hc => ?_, fun hc cap hcap => ?_⟩
  · obtain ⟨h1, h2⟩ := s
    cases a with
    | none =>
      obtain ⟨rfl, rfl⟩ := h2
      have : n = 0 := by omega
      subst this
      rw [Nat.zero_mul] at hn h1
      have e1 := List.length_eq_zero_iff.mp hn
      have e2 := List.length_eq_zero_iff.mp h1
      subst e1; subst e2
      exact ⟨by simp [WrS], hk none 0 _ (Fr.refl _ _) (Sl.nil _ _ _)⟩
    | some p =>
      obtain ⟨b, o, sp⟩ := p
      obtain ⟨a1, a2, a3, a4, a5, a6⟩ := h2
      have a1 : sp = none := a1
      subst a1
      simp only at a2 a3 a5 a6
      have hm : (l + n) * elem.cells ≤ c * elem.cells := Nat.mul_le_mul_right _ hc
      rw [Nat.add_mul] at hm
      refine ⟨?_, hk (some ⟨b, o, none⟩) c _ ?_ ?_⟩
      · simp only [WrS, add_mk]; exact wrN_rd a3 (by omega)
      · simp only [setS, add_mk]; exact (Fr.refl F h).setRow (Or.inl a2)
      · simp only [setS, add_mk]
        refine ⟨by rw [List.length_append, h1, hn, Nat.add_mul], rfl, Or.inl a2, own_setRow a3, hc, ?_, ?_⟩
        · simp only [rd_setRow_at, Nat.add_zero, List.length_append, ← h1] at a5 ⊢
          rw [take_put _ _ _ _ (by rw [h1]; omega), a5]
        · simp only [rd_setRow_at, put_length]; exact a6
  · have hf : Fr F h (newO h (xs ++ new ++ repCells elem.zero (cap - (l + n))) e) := fr_newO _ _
    refine hk _ _ _ hf (Sl.new h elem.cells e (l + n) cap (xs ++ new) _ _ (Or.inr (Nat.le_refl _)) (by rw [List.length_append, s.1, hn, Nat.add_mul]) hcap ?_)
    rw [length_repCells, hz]
/-- append to nothing: a row of one's own -/
theorem append_nil {elem : TI} {e n : Nat} {new : List Value} {h : Heap} {k : Option Addr → Nat → Nat → Heap → Prop}
    (hn : new.length = n * elem.cells) (hz : elem.zero.length = elem.cells) (hb : n * elem.bytes ≤ 140737488355328) (hb' : n ≤ 140737488355328)
    (hk : ∀ a' c' h', Fr No h h' → Sl h' elem.cells a' n c' new (From h.size) → k a' n c' h') :
    AppendP elem e none 0 0 n new h k := by
  refine append_own (Sl.nil h _ No) hn hz (by simpa using hb) (by simpa using hb') fun a' c' h' f s => ?_
  simp only [Nat.zero_add, List.nil_append] at s ⊢
  exact hk a' c' h' f (s.mono fun b hb => hb.elim (fun x => x.elim) id)
theorem StrAt.src {h : Heap} {a : Option Addr} {l : Nat} {bs : List UInt8} (c : StrAt h a l bs) : (bs.map bv).length = l * 1 ∧ SlCells h a (bs.map bv) ∧ ∀ v ∈ bs.map bv, v.oneCell' = true :=
  ⟨by rw [List.length_map, c.1, Nat.mul_one], c.2, bv_one bs⟩
end Go.Proofs.Ytnbfaokpaiiojaa.Hp
