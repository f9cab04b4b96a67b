/-
  ROWS OF SLICES, each with blocks of its own colour; what is read and never written again.
-/
import Derived.Test.YtgpkcakanieodaaHpE
namespace Go.Proofs.Ytgpkcakanieodaa.Rz
open Go Go.Proofs Go.Proofs.Ytgpkcakanieodaa.Wx Go.Proofs.Ytgpkcakanieodaa.Hp

/-- a slice -/
structure Sc where
  a : Option Addr
  l : Nat
  c : Nat
def Sc.v (s : Sc) : Value := .slice s.a s.l s.c
theorem oe {α : Type} {a : Option α} {p : α} {k : α → Prop} (e : a = some p) (h : k p) : onSome a k := by rw [e]; exact h
theorem Sl.keep' {h h' : Heap} {ec l c k : Nat} {a : Option Addr} {xs : List Value} {F : Nat → Prop} {col col' : Nat → Nat} (s : Sl h ec a l c xs (On col k)) (f : Fr F h h') (g : Ag h.size col col') (hF : ∀ b, b < h.size → col b = k → ¬ F b) : Sl h' ec a l c xs (On col' k) := by
  have s' := Hp.Sl.fr f s (fun b hb hk => hF b hb hk)
  obtain ⟨h1, h2⟩ := s'
  refine ⟨h1, ?_⟩
  cases a with
  | none => exact h2
  | some p => obtain ⟨a1, a2, a3, a4⟩ := h2; exact ⟨a1, (g _ s.lt).trans a2, a3, a4⟩
/-- append, where the old row stays readable -/
theorem append_both {elem : TI} {e : Nat} {a : Option Addr} {l c n : Nat} {xs new : List Value} {h : Heap} {F : Nat → Prop} {k : Option Addr → Nat → Nat → Heap → Prop}
    (s : Sl h elem.cells a l c xs F) (hn : new.length = n * elem.cells) (hz : elem.zero.length = elem.cells) (hb : (l + n) * elem.bytes ≤ 140737488355328) (hb' : l + n ≤ 140737488355328)
    (hk : ∀ a' c' h', Fr F h h' → Sl h' elem.cells a' (l + n) c' (xs ++ new) (fun b => F b ∨ h.size ≤ b) → Sl h' elem.cells a l c xs F → k a' (l + n) c' h') :
    AppendP elem e a l c n new h k := by
  refine ⟨xs, s.1, s.cells, hb, hb', fun hc => ?_, fun hc cap hcap => ?_⟩
  · have s0 := s
    obtain ⟨h1, h2⟩ := s
    cases a with
    | none =>
      obtain ⟨rfl, rfl⟩ := h2
      have : n = 0 := by omega
      subst this
      rw [Nat.zero_mul] at hn h1
      have e1 := List.length_eq_zero_iff.mp hn
      have e2 := List.length_eq_zero_iff.mp h1
      subst e1; subst e2
      exact ⟨by simp [WrS], hk none 0 _ (Fr.refl _ _) (Sl.nil _ _ _) (Sl.nil _ _ _)⟩
    | some p =>
      obtain ⟨b, o, sp⟩ := p
      obtain ⟨a1, a2, a3, a4, a5, a6⟩ := h2
      have a1 : sp = none := a1
      subst a1
      simp only at a2 a3 a5 a6
      have hm : (l + n) * elem.cells ≤ c * elem.cells := Nat.mul_le_mul_right _ hc
      rw [Nat.add_mul] at hm
      have big : Sl (setS h (some ⟨b, o, none⟩) (l * elem.cells) new) elem.cells (some ⟨b, o, none⟩) (l + n) c (xs ++ new) F := by
        simp only [setS, add_mk]
        refine ⟨by rw [List.length_append, h1, hn, Nat.add_mul], rfl, a2, own_setRow a3, hc, ?_, ?_⟩
        · simp only [rd_setRow_at, Nat.add_zero, List.length_append, ← h1] at a5 ⊢
          rw [take_put _ _ _ _ (by rw [h1]; omega), a5]
        · simp only [rd_setRow_at, put_length]; exact a6
      refine ⟨?_, hk (some ⟨b, o, none⟩) c _ ?_ (big.mono fun b hb => Or.inl hb) ?_⟩
      · simp only [WrS, add_mk]; exact wrN_rd a3 (by omega)
      · simp only [setS, add_mk]; exact (Fr.refl F h).setRow (Or.inl a2)
      · obtain ⟨b1, c1, c2, c3, c4, c5, c6⟩ := big
        refine ⟨h1, c1, c2, c3, a4, ?_, c6⟩
        rw [List.length_append] at c5
        have := congrArg (List.take xs.length) c5
        rw [List.take_take, Nat.min_eq_left (by omega), List.take_left] at this
        exact this
  · have hf : Fr F h (newO h (xs ++ new ++ repCells elem.zero (cap - (l + n))) e) := fr_newO _ _
    refine hk _ _ _ hf (Sl.new h elem.cells e (l + n) cap (xs ++ new) _ _ (Or.inr (Nat.le_refl _)) (by rw [List.length_append, s.1, hn, Nat.add_mul]) hcap ?_) (Hp.Sl.fr (fr_newO (F := No) _ _) s fun _ _ _ x => x)
    rw [length_repCells, hz]
/-- what is read and never written again -/
def Fz (h : Heap) (col : Nat → Nat) (a : Option Addr) (xs : List Value) : Prop := SlCells h a xs ∧ ∀ p, a = some p → p.block < h.size ∧ col p.block = 0
theorem Fz.keep {h h' : Heap} {col col' : Nat → Nat} {a : Option Addr} {xs : List Value} {F : Nat → Prop} (z : Fz h col a xs) (f : Fr F h h') (g : Ag h.size col col') (hF : ∀ b, b < h.size → col b = 0 → ¬ F b) : Fz h' col' a xs :=
  ⟨SlCells.fr f z.1 fun p e => hF _ (z.2 p e).1 (z.2 p e).2, fun p e => ⟨Nat.lt_of_lt_of_le (z.2 p e).1 f.size, (g _ (z.2 p e).1).trans (z.2 p e).2⟩⟩
theorem Fz.of {h : Heap} {col : Nat → Nat} {ec l c : Nat} {a : Option Addr} {xs : List Value} {F : Nat → Prop} (s : Sl h ec a l c xs F) (hF : ∀ b, b < h.size → F b → col b = 0) : Fz h col a xs :=
  ⟨s.cells, fun p e => by subst e; exact ⟨s.lt, hF _ s.lt s.2.2.1⟩⟩
/-- a row (of colour k) of slices, the i-th of them of colour m + i, with what they hold -/
structure Rw (h : Heap) (col : Nat → Nat) (k m : Nat) (a : Option Addr) (l c : Nat) (ss : List Sc) (vs : List (List Value)) : Prop where
  row : Sl h 1 a l c (ss.map Sc.v) (On col k)
  num : ss.length = l
  len : ss.length = vs.length
  at_ : ∀ i (h1 : i < ss.length) (h2 : i < vs.length), Sl h 1 ss[i].a ss[i].l ss[i].c vs[i] (On col (m + i))
theorem Rw.nil (h : Heap) (col : Nat → Nat) (k m : Nat) : Rw h col k m none 0 0 [] [] := ⟨Sl.nil _ _ _, rfl, rfl, fun i h1 => absurd h1 (Nat.not_lt_zero _)⟩
theorem Rw.keep {h h' : Heap} {col col' : Nat → Nat} {k m l c : Nat} {a : Option Addr} {ss : List Sc} {vs : List (List Value)} {F : Nat → Prop} (r : Rw h col k m a l c ss vs) (f : Fr F h h') (g : Ag h.size col col') (hF : ∀ b, b < h.size → (col b = k ∨ (m ≤ col b ∧ col b < m + ss.length)) → ¬ F b) : Rw h' col' k m a l c ss vs :=
  ⟨Sl.keep' r.row f g fun b hb hc => hF b hb (Or.inl hc), r.num, r.len, fun i h1 h2 => Sl.keep' (r.at_ i h1 h2) f g fun b hb hc => hF b hb (Or.inr (by omega))⟩
/-- the row's cell i -/
theorem Rw.cell {h : Heap} {col : Nat → Nat} {k m l c : Nat} {a : Option Addr} {ss : List Sc} {vs : List (List Value)} (r : Rw h col k m a l c ss vs) {i : Nat} (hi : i < ss.length) : ∃ p, a = some p ∧ cellOf h (p.add i) = some (.slice ss[i].a ss[i].l ss[i].c) := by
  obtain ⟨p, e, cc⟩ := r.row.get (by have := r.num; omega)
  exact ⟨p, e, Cells.cell cc (by rw [List.getElem?_map, List.getElem?_eq_getElem hi]; rfl)⟩
/-- new slices behind the row; the row's block, or a new one, is written -/
theorem Rw.push {h h' : Heap} {col : Nat → Nat} {k m l c c' : Nat} {a a' : Option Addr} {ss new : List Sc} {vs nvs : List (List Value)} (r : Rw h col k m a l c ss vs) (hk : k < m ∨ m + ss.length + new.length ≤ k) (f : Fr (On col k) h h')
    (s : Sl h' 1 a' (l + new.length) c' (ss.map Sc.v ++ new.map Sc.v) (On (upd col h.size k) k)) (hn : new.length = nvs.length) (items : ∀ i (h1 : i < new.length) (h2 : i < nvs.length), Sl h 1 new[i].a new[i].l new[i].c nvs[i] (On col (m + ss.length + i))) :
    Rw h' (upd col h.size k) k m a' (l + new.length) c' (ss ++ new) (vs ++ nvs) := by
  have g : Ag h.size col (upd col h.size k) := ag_upd _ _ _
  refine ⟨by rw [List.map_append]; exact s, by rw [List.length_append, r.num], by rw [List.length_append, List.length_append, r.len, hn], fun i h1 h2 => ?_⟩
  rw [List.length_append] at h1 h2
  by_cases hi : i < ss.length
  · have hi2 : i < vs.length := by rw [← r.len]; exact hi
    rw [List.getElem_append_left hi, List.getElem_append_left hi2]
    exact Sl.keep' (r.at_ i hi hi2) f g fun b _ hb hF => by have hF : col b = k := hF; omega
  · have hlen := r.len
    rw [List.getElem_append_right (by omega), List.getElem_append_right (by omega)]
    have e : i - vs.length = i - ss.length := by omega
    have hb : i - ss.length < new.length := by omega
    have := Sl.keep' (items (i - ss.length) hb (by omega)) f g fun b _ hb hF => by have hF : col b = k := hF; omega
    rw [show m + ss.length + (i - ss.length) = m + i by omega] at this
    simp only [e]
    exact this
/-- item i is written -/
theorem Rw.write {h h' : Heap} {col : Nat → Nat} {k m l c : Nat} {a : Option Addr} {ss : List Sc} {vs : List (List Value)} (r : Rw h col k m a l c ss vs) {i : Nat} (hi : i < ss.length) {ys : List Value} (hk : k < m ∨ m + ss.length ≤ k) (f : Fr (On col (m + i)) h h')
    (s : Sl h' 1 ss[i].a ss[i].l ss[i].c ys (On col (m + i))) : Rw h' col k m a l c ss (vs.set i ys) := by
  refine ⟨Sl.keep' r.row f (Ag.refl _ _) fun b _ hb hF => by have hF : col b = m + i := hF; omega, r.num, by rw [List.length_set]; exact r.len, fun j h1 h2 => ?_⟩
  rw [List.length_set] at h2
  by_cases e : i = j
  · subst e
    rw [List.getElem_set_self]; exact s
  · rw [List.getElem_set_ne e]
    exact Sl.keep' (r.at_ j h1 h2) f (Ag.refl _ _) fun b _ hb hF => by have hF : col b = m + i := hF; omega
variable {h0 hh h' : Heap} {col : Nat → Nat}
/-- a row's slice i has been appended to; what it held stays -/
theorem Rw.app {k m l c i : Nat} {a : Option Addr} {qs : List Sc} {vs : List (List Value)} (r : Rw hh col k m a l c qs vs) (hi : i < qs.length) (hv : i < vs.length) (hk : k < m ∨ m + qs.length ≤ k) (f : Fr (On col (m + i)) hh h')
    (w : Sl h' 1 qs[i].a qs[i].l qs[i].c vs[i] (On col (m + i))) : Rw h' (upd col hh.size (m + i)) k m a l c qs vs := by
  have g : Ag hh.size col (upd col hh.size (m + i)) := ag_upd _ _ _
  refine ⟨Sl.keep' r.row f g fun b _ hb hF => by have hF : col b = m + i := hF; omega, r.num, r.len, fun j h1 h2 => ?_⟩
  by_cases e : i = j
  · subst e
    refine w.mono fun b hb => ?_
    have hb : col b = m + i := hb
    show upd col hh.size (m + i) b = m + i
    unfold upd
    split
    · exact hb
    · rfl
  · exact Sl.keep' (r.at_ j h1 h2) f g fun b _ hb hF => by have hF : col b = m + i := hF; omega
theorem Rw.len_at {h : Heap} {k m l c : Nat} {a : Option Addr} {qs : List Sc} {vs : List (List Value)} (r : Rw h col k m a l c qs vs) {i : Nat} (h1 : i < qs.length) (h2 : i < vs.length) : vs[i].length = qs[i].l := by
  have := (r.at_ i h1 h2).1; omega
/-- an item's cell -/
theorem Rw.item {h : Heap} {k m l c : Nat} {a : Option Addr} {qs : List Sc} {vs : List (List Value)} (r : Rw h col k m a l c qs vs) {i : Nat} (h1 : i < qs.length) (h2 : i < vs.length) {j : Nat} (hj : j < qs[i].l) {v : Value} (hv : vs[i][j]? = some v) : ∃ p, qs[i].a = some p ∧ cellOf h (p.add j) = some v := by
  obtain ⟨p, e, cc⟩ := (r.at_ i h1 h2).get (by omega)
  exact ⟨p, e, Cells.cell cc hv⟩
theorem rep_get {v : Value} {n j : Nat} (h : j < n) : (List.replicate n v)[j]? = some v := by rw [List.getElem?_replicate, if_pos h]
theorem set_here {α : Type} (z : α) (xs : List α) (n : Nat) (hn : n < xs.length) : (List.replicate n z ++ xs.drop n).set n z = List.replicate (n + 1) z ++ xs.drop (n + 1) := by
  rw [List.set_append_right _ _ (by rw [List.length_replicate]; omega), List.length_replicate, Nat.sub_self, List.drop_eq_getElem_cons hn, List.set_cons_zero, List.replicate_succ', List.append_assoc]
  rfl
end Go.Proofs.Ytgpkcakanieodaa.Rz
