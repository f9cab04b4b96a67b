/-
  bolelaw14: the book of lists.
-/
import Derived.Test.YtgpkcakanieodaaDoorSlI
namespace Go.Proofs.YtgpkcakanieodaaDoor.Ss
open Go Go.Proofs Go.Proofs.YtgpkcakanieodaaDoor.Wx Go.Proofs.YtgpkcakanieodaaDoor.Hp Go.Proofs.YtgpkcakanieodaaDoor.W Go.Proofs.YtgpkcakanieodaaDoor.Re Go.Proofs.YtgpkcakanieodaaDoor.Sk Go.Proofs.YtgpkcakanieodaaDoor.Ch

theorem Sl.keep' {h h' : Heap} {ec l c k : Nat} {a : Option Addr} {xs : List Value} {F : Nat → Prop} {col col' : Nat → Nat} (s : Sl h ec a l c xs (On col k)) (f : Fr F h h') (g : Ag h.size col col') (hF : ∀ b, b < h.size → col b = k → ¬ F b) : Sl h' ec a l c xs (On col' k) := by
  have s' := Hp.Sl.fr f s (fun b hb hk => hF b hb hk)
  obtain ⟨h1, h2⟩ := s'
  refine ⟨h1, ?_⟩
  cases a with
  | none => exact h2
  | some p => obtain ⟨a1, a2, a3, a4⟩ := h2; exact ⟨a1, (g _ s.lt).trans a2, a3, a4⟩
/-- append, where the old row stays readable -/
theorem append_both {elem : TI} {e : Nat} {a : Option Addr} {l c n : Nat} {xs new : List Value} {h : Heap} {F : Nat → Prop} {k : Option Addr → Nat → Nat → Heap → Prop}
    (s : Sl h elem.cells a l c xs F) (hn : new.length = n * elem.cells) (hz : elem.zero.length = elem.cells) (hb : (l + n) * elem.bytes ≤ 140737488355328) (hb' : l + n ≤ 140737488355328)
    (hk : ∀ a' c' h', Fr F h h' → Sl h' elem.cells a' (l + n) c' (xs ++ new) (fun b => F b ∨ h.size ≤ b) → Sl h' elem.cells a l c xs F → k a' (l + n) c' h') :
    AppendP elem e a l c n new h k := by
  refine ⟨xs, s.1, s.cells, hb, hb', fun hc => ?_, fun hc cap hcap => ?_⟩
  · have s0 := s
    obtain ⟨h1, h2⟩ := s
    cases a with
    | none =>
      obtain ⟨rfl, rfl⟩ := h2
      have : n = 0 := by omega
      subst this
      rw [Nat.zero_mul] at hn h1
      have e1 := List.length_eq_zero_iff.mp hn
      have e2 := List.length_eq_zero_iff.mp h1
      subst e1; subst e2
      exact ⟨by simp [WrS], hk none 0 _ (Fr.refl _ _) (Sl.nil _ _ _) (Sl.nil _ _ _)⟩
    | some p =>
      obtain ⟨b, o, sp⟩ := p
      obtain ⟨a1, a2, a3, a4, a5, a6⟩ := h2
      have a1 : sp = none := a1
      subst a1
      simp only at a2 a3 a5 a6
      have hm : (l + n) * elem.cells ≤ c * elem.cells := Nat.mul_le_mul_right _ hc
      rw [Nat.add_mul] at hm
      have big : Sl (setS h (some ⟨b, o, none⟩) (l * elem.cells) new) elem.cells (some ⟨b, o, none⟩) (l + n) c (xs ++ new) F := by
        simp only [setS, add_mk]
        refine ⟨by rw [List.length_append, h1, hn, Nat.add_mul], rfl, a2, own_setRow a3, hc, ?_, ?_⟩
        · simp only [rd_setRow_at, Nat.add_zero, List.length_append, ← h1] at a5 ⊢
          rw [take_put _ _ _ _ (by rw [h1]; omega), a5]
        · simp only [rd_setRow_at, put_length]; exact a6
      refine ⟨?_, hk (some ⟨b, o, none⟩) c _ ?_ (big.mono fun b hb => Or.inl hb) ?_⟩
      · simp only [WrS, add_mk]; exact wrN_rd a3 (by omega)
      · simp only [setS, add_mk]; exact (Fr.refl F h).setRow (Or.inl a2)
      · obtain ⟨b1, c1, c2, c3, c4, c5, c6⟩ := big
        refine ⟨h1, c1, c2, c3, a4, ?_, c6⟩
        rw [List.length_append] at c5
        have := congrArg (List.take xs.length) c5
        rw [List.take_take, Nat.min_eq_left (by omega), List.take_left] at this
        exact this
  · have hf : Fr F h (newO h (xs ++ new ++ repCells elem.zero (cap - (l + n))) e) := fr_newO _ _
    refine hk _ _ _ hf (Sl.new h elem.cells e (l + n) cap (xs ++ new) _ _ (Or.inr (Nat.le_refl _)) (by rw [List.length_append, s.1, hn, Nat.add_mul]) hcap ?_) (Hp.Sl.fr (fr_newO (F := No) _ _) s fun _ _ _ x => x)
    rw [length_repCells, hz]
/-- what is read and never written again -/
def Fz (h : Heap) (col : Nat → Nat) (a : Option Addr) (xs : List Value) : Prop := SlCells h a xs ∧ ∀ p, a = some p → p.block < h.size ∧ col p.block = 0
theorem Fz.keep {h h' : Heap} {col col' : Nat → Nat} {a : Option Addr} {xs : List Value} {F : Nat → Prop} (z : Fz h col a xs) (f : Fr F h h') (g : Ag h.size col col') (hF : ∀ b, b < h.size → col b = 0 → ¬ F b) : Fz h' col' a xs :=
  ⟨SlCells.fr f z.1 fun p e => hF _ (z.2 p e).1 (z.2 p e).2, fun p e => ⟨Nat.lt_of_lt_of_le (z.2 p e).1 f.size, (g _ (z.2 p e).1).trans (z.2 p e).2⟩⟩
theorem Fz.of {h : Heap} {col : Nat → Nat} {ec l c : Nat} {a : Option Addr} {xs : List Value} {F : Nat → Prop} (s : Sl h ec a l c xs F) (hF : ∀ b, b < h.size → F b → col b = 0) : Fz h col a xs :=
  ⟨s.cells, fun p e => by subst e; exact ⟨s.lt, hF _ s.lt s.2.2.1⟩⟩
def sv (x : Option Addr × Nat × Nat) : Value := .slice x.1 x.2.1 x.2.2
/-- the book: four rows of lists, each in blocks of its own colour -/
structure Bk (h : Heap) (col : Nat → Nat) (b : Nat) (ar : Nat → Option Addr × Nat × Nat) (Ls : Nat → List Value) : Prop where
  own : Own h b
  colb : col b = 3
  rd : Hp.rd h b = [sv (ar 0), sv (ar 1), sv (ar 2), sv (ar 3)]
  len : ∀ k, k < 4 → (ar k).2.1 = (Ls k).length
  sl : ∀ k, k < 4 → Sl h 1 (ar k).1 (ar k).2.1 (ar k).2.2 (Ls k) (On col (4 + k))
theorem Bk.quiet {h h' : Heap} {col col' : Nat → Nat} {b : Nat} {ar : Nat → Option Addr × Nat × Nat} {Ls : Nat → List Value} {F : Nat → Prop} (bk : Bk h col b ar Ls) (f : Fr F h h') (g : Ag h.size col col') (hF : ∀ b, b < h.size → F b → col b < 3 ∨ 7 < col b) : Bk h' col' b ar Ls := by
  have hb := bk.own.lt
  have nb : ¬ F b := fun x => by have := hF b hb x; rw [bk.colb] at this; omega
  exact ⟨f.own hb nb bk.own, (g b hb).trans bk.colb, (f.rd hb nb).trans bk.rd, bk.len, fun k hk => Sl.keep' (bk.sl k hk) f g fun x hx hc hf => by have := hF x hx hf; omega⟩
theorem Bk.cell {h : Heap} {col : Nat → Nat} {b : Nat} {ar : Nat → Option Addr × Nat × Nat} {Ls : Nat → List Value} (bk : Bk h col b ar Ls) {k : Nat} (hk : k < 4) : cellOf h (Addr.add ⟨b, 0, none⟩ k) = some (.slice (ar k).1 (ar k).2.1 (ar k).2.2) := by
  refine rda bk.rd ?_
  obtain rfl | rfl | rfl | rfl : k = 0 ∨ k = 1 ∨ k = 2 ∨ k = 3 := by omega
  all_goals rfl
/-- a list is put behind row k -/
theorem Bk.push {h : Heap} {col : Nat → Nat} {b : Nat} {ar : Nat → Option Addr × Nat × Nat} {Ls : Nat → List Value} {X : Value} {NEXT : Heap → Prop} (bk : Bk h col b ar Ls) {k : Nat} (hk : k < 4) (hb : ((Ls k).length + 1) * 24 ≤ 140737488355328)
    (hN : ∀ h3 col3 as3, Fr (fun x => col x = 3 ∨ col x = 4 + k) h h3 → Ag h.size col col3 → h.size ≤ h3.size → Bk h3 col3 b as3 (fun j => if j = k then Ls j ++ [X] else Ls j) → NEXT h3) :
    AppendP ti33 33 (ar k).1 (ar k).2.1 (ar k).2.2 1 [X] h fun a' l' c' h17 => onSome (some (⟨b, 0, none⟩ : Addr)) fun p => Put (Addr.add p k) (.slice a' l' c') h17 NEXT := by
  have hlen := bk.len k hk
  have hbytes : (ti33).bytes = 24 := rfl
  have hbb := bk.own.lt
  refine append_col (elem := ti33) (show Sl h (ti33).cells _ _ _ _ _ from bk.sl k hk) rfl rfl (by rw [hbytes, hlen]; exact hb) (by rw [hlen]; omega) fun a' c' h' f' s' => os ?_
  have nb : ¬ On col (4 + k) b := fun x => by have x : col b = 4 + k := x; rw [bk.colb] at x; omega
  have w' := f'.own hbb nb bk.own
  have r' := (f'.rd hbb nb).trans bk.rd
  refine Put.add w' (by rw [r']; show 0 + k < 4; omega) fun h3 d3 => ?_
  have hs' := f'.size
  have hs3 := d3.size
  have ag : Ag h.size col (upd col h.size (4 + k)) := ag_upd _ _ _
  have f3 : Fr (fun x => col x = 3 ∨ col x = 4 + k) h h3 := (f'.mono fun _ _ x => Or.inr x).did d3 fun hlt => Or.inl bk.colb
  refine hN h3 (upd col h.size (4 + k)) (fun j => if j = k then (a', (ar k).2.1 + 1, c') else ar j) f3 ag (by omega) ⟨d3.own, (ag _ hbb).trans bk.colb, ?_, fun j hj => ?_, fun j hj => ?_⟩
  · rw [d3.rd, r']
    obtain rfl | rfl | rfl | rfl : k = 0 ∨ k = 1 ∨ k = 2 ∨ k = 3 := by omega
    all_goals rfl
  · by_cases e : j = k
    · subst e; simp only [if_pos]; rw [List.length_append, ← hlen]; rfl
    · simp only [if_neg e]; exact bk.len j hj
  · by_cases e : j = k
    · subst e
      simp only [if_pos]
      refine (show Sl h' 1 a' ((ar j).2.1 + 1) c' (Ls j ++ [X]) _ from s').fr d3.fr fun x hx hc hb' => ?_
      have hc : upd col h.size (4 + j) x = 4 + j := hc
      rw [hb', upd_lt hbb, bk.colb] at hc; omega
    · simp only [if_neg e]
      have s1 := Sl.keep' (bk.sl j hj) f' ag fun x _ hc hk' => by have hk' : col x = 4 + k := hk'; omega
      refine s1.fr d3.fr fun x hx hc hb' => ?_
      have hc : upd col h.size (4 + k) x = 4 + j := hc
      rw [hb', upd_lt hbb, bk.colb] at hc; omega
/-- a reading: the list as it was told, its copy, the list written full, and with one more -/
structure Rc where
  ra : Option Addr × Nat × Nat
  wa : Option Addr × Nat × Nat
  fa : Option Addr × Nat × Nat
  ma : Option Addr × Nat × Nat
  es : List E
def Rc.sel (r : Rc) : Nat → Value
  | 0 => sv r.ra
  | 1 => sv r.wa
  | 2 => sv r.fa
  | _ => sv r.ma
def markE (i : Nat) : E := ⟨-2 - i, [109, 97, 114, 107], 0⟩
structure RcAt (h : Heap) (col : Nat → Nat) (i : Nat) (r : Rc) : Prop where
  raw : Fz h col r.ra.1 (r.es.flatMap E.v)
  rawl : r.es.length = r.ra.2.1
  was : Fz h col r.wa.1 (r.es.flatMap E.v)
  wasl : r.es.length = r.wa.2.1
  full : Fz h col r.fa.1 ((List.replicate r.fa.2.1 (markE i)).flatMap E.v)
  more : Fz h col r.ma.1 ((List.replicate r.ma.2.1 (markE i)).flatMap E.v)
  el : r.es.length ≤ 16
  ml : r.ma.2.1 ≤ 17
theorem RcAt.keep {h h' : Heap} {col col' : Nat → Nat} {i : Nat} {r : Rc} {F : Nat → Prop} (z : RcAt h col i r) (f : Fr F h h') (g : Ag h.size col col') (hF : ∀ b, b < h.size → col b = 0 → ¬ F b) : RcAt h' col' i r :=
  ⟨z.raw.keep f g hF, z.rawl, z.was.keep f g hF, z.wasl, z.full.keep f g hF, z.more.keep f g hF, z.el, z.ml⟩
theorem ans_len (bs : List UInt8) : (ans bs).1.length ≤ 16 := by
  unfold ans
  split
  · exact Nat.zero_le _
  · split
    · exact Nat.zero_le _
    · rename_i h1 _ hs hd
      have := ents_len hs 0
      have := (blk_dec (by omega) hd).1
      show (ents 0 hs).length ≤ 16; omega
theorem set_here {α : Type} (z : α) (xs : List α) (n : Nat) (hn : n < xs.length) : (List.replicate n z ++ xs.drop n).set n z = List.replicate (n + 1) z ++ xs.drop (n + 1) := by
  rw [List.set_append_right _ _ (by rw [List.length_replicate]; omega), List.length_replicate, Nat.sub_self, List.drop_eq_getElem_cons hn, List.set_cons_zero, List.replicate_succ', List.append_assoc]
  rfl
theorem Book_read_spec {h0 : Heap} {col0 : Nat → Nat} {bB n l c wL wC : Nat} {mA wA : Option Addr} {ar : Nat → Option Addr × Nat × Nat} {Ls : Nat → List Value} {bs : List UInt8} {K : Value → Heap → Prop} (g : Glo h0) (bk : Bk h0 col0 bB ar Ls) (hn : ∀ k, k < 4 → (Ls k).length = n) (hb : (n + 1) * 24 ≤ 140737488355328)
    (B : StrAt h0 mA l bs) (hlc : l ≤ c) (W : Fz h0 col0 wA ((ans bs).1.flatMap E.v)) (hwl : (ans bs).1.length = wL) (c1 : ∀ b, b < 1 → col0 b = 0)
    (hK : ∀ h' col' ar' r, Fr (fun x => 3 ≤ col0 x ∧ col0 x ≤ 7) h0 h' → Ag h0.size col0 col' → Bk h' col' bB ar' (fun k => if k < 4 then Ls k ++ [Rc.sel r k] else Ls k) → RcAt h' col' n r → K (.bool true) h') :
    C.bolelaw14_Book_read (some ⟨bB, 0, none⟩) mA l c wA wL wC (ans bs).2 h0 K := by
  have hbB := bk.own.lt
  have al := ans_len bs
  refine bolelaw14_Book_read.ok (Read_spec g B hlc fun h2 a1 l1 cc1 f2 r1 => ⟨_, _, _, _, rfl, ?_⟩)
  have hs2 := f2.size
  refine Read_spec (g.no f2) (StrAt.fr f2 B fun _ _ x => x) hlc fun h3 a2 l2 cc2 f3 m3 => ⟨_, _, _, _, rfl, ?_⟩
  have hs3 := f3.size
  have F3 := f2.no f3
  generalize hes : (ans bs).1 = es at *
  have e1 : es.length = l1 := by have := r1.1; rw [flat_length E.v 3 _ (fun x _ => E.len x)] at this; omega
  have e2 : es.length = l2 := by have := m3.1; rw [flat_length E.v 3 _ (fun x _ => E.len x)] at this; omega
  have r1 := Sl.below r1
  have m3 := Sl.below m3
  have r3 := r1.fr f3 fun _ _ _ x => x
  have W3 := SlCells.fr F3 W.1 fun _ _ x => x
  refine cn (fun x => absurd rfl x) fun _ => cn (fun x => absurd rfl x) fun _ => sameEntries_spec r3.cells e1 W3 hwl (by omega) ⟨_, rfl, ?_⟩
  rw [decide_eq_true rfl]
  refine cf rfl (sameEntries_spec m3.cells e2 W3 hwl (by omega) ⟨_, rfl, ?_⟩)
  rw [decide_eq_true rfl]
  refine cf rfl ?_
  unfold bolelaw14_Book_read.k1
  have bk3 : Bk h3 col0 bB ar Ls := bk.quiet F3 (Ag.refl _ _) fun _ _ x => x.elim
  have hn2 : (ar 2).2.1 = n := by rw [bk.len 2 (by omega), hn 2 (by omega)]
  have hn' : n ≤ 140737488355328 := by omega
  refine os ⟨_, _, _, bk3.cell (by omega), ?_⟩
  rw [hn2, wrap_i64 (n := -2 - (n : Int)) (by omega) (by omega)]
  refine NewRow.intro rfl (E.one (markE n)) rfl fun h8 n8 => ?_
  have hs8 := n8.size
  have F8 := F3.new n8
  have m8 := m3.fr n8.fr fun _ _ _ x => x
  refine ⟨fun i hh => 0 ≤ i ∧ i ≤ l2 ∧ Fr (fun x => h2.size ≤ x ∧ x < h3.size) h8 hh ∧ Sl hh 3 a2 l2 cc2 ((List.replicate i.toNat (markE n) ++ es.drop i.toNat).flatMap E.v) (fun x => From h2.size x ∧ x < h3.size), fun i _ => ((l2 : Int) - i).toNat,
    ⟨by omega, by omega, Fr.refl _ _, m8⟩, ?_⟩
  rintro i h9 ⟨i0, i1, f9, m9⟩
  have hs9 := f9.size
  have rm9 : rd h9 h3.size = E.v (markE n) := (f9.rd (by omega) fun x => by omega).trans n8.rd
  refine cd (fun hi => ?_) fun hi => ?_
  · obtain ⟨p, rfl, _⟩ := m9.get (by omega)
    obtain ⟨pb, po, ps⟩ := p
    have eps : ps = none := m9.2.1
    subst eps
    have pF : h2.size ≤ pb ∧ pb < h3.size := m9.2.2.1
    obtain ⟨w9, wl9⟩ := m9.wr
    have hin : i.toNat < es.length := by omega
    refine ⟨_, rfl, cellsAll rm9, ⟨i0, hi⟩, os (PutRow.add w9 rfl (E.one (markE n)) (by omega) fun h10 d10 => ?_)⟩
    rw [wrap_i64 (n := i + 1) (by omega) (by omega)]
    refine ⟨⟨by omega, by omega, f9.did d10 fun _ => pF, ?_⟩, falls hi⟩
    have := m9.putPart (fun x _ => E.len x) (i := i.toNat) (y := markE n) (by rw [List.length_append, List.length_replicate, List.length_drop]; omega) (E.len _) d10
    rw [set_here _ _ _ hin] at this
    rw [show (i + 1).toNat = i.toNat + 1 by omega]
    exact this
  have ei : i.toNat = l2 := by omega
  rw [ei, List.drop_of_length_le (by omega), List.append_nil] at m9
  have F9 : Fr No h0 h9 := F8.trans f9 fun b hb hF => by omega
  -- all new blocks have colour 0
  have ag9 : Ag h0.size col0 (upd col0 h0.size 0) := ag_upd _ _ _
  have cz9 : ∀ b, h0.size ≤ b → upd col0 h0.size 0 b = 0 := fun b hb => upd_ge hb
  generalize upd col0 h0.size 0 = col9 at ag9 cz9
  have bk9 : Bk h9 col9 bB ar Ls := bk.quiet F9 ag9 fun _ _ x => x.elim
  have W9 : Fz h9 col9 wA (es.flatMap E.v) := W.keep F9 ag9 fun _ _ _ x => x
  have r9 := (r3.fr n8.fr fun _ _ _ x => x).fr f9 fun b hb hF hG => by omega
  have R9 : Fz h9 col9 a1 (es.flatMap E.v) := Fz.of r9 fun b _ hF => cz9 b (by have : h0.size ≤ b := hF.1; omega)
  refine os ⟨_, _, _, bk9.cell (k := 0) (by omega), New.intro fun h11 n11 => ⟨[sv (a1, l1, cc1)], rfl, cellsAll n11.rd, fun v hv => by rw [List.mem_singleton.mp hv]; rfl, ?_⟩⟩
  have hs11 := n11.size
  have F11 := F9.new n11
  -- row 0
  have ag11 : Ag h9.size col9 (upd col9 h9.size 0) := ag_upd _ _ _
  generalize upd col9 h9.size 0 = col11 at ag11
  have bk11 : Bk h11 col11 bB ar Ls := bk9.quiet n11.fr ag11 fun _ _ x => x.elim
  refine bk11.push (k := 0) (by omega) (by rw [hn 0 (by omega)]; exact hb) fun h13 col13 as13 f13 ag13 hs13 bk13 => ?_
  have AG13 : Ag h9.size col9 col13 := ag11.trans ag13 (by omega)
  have G13 : Fr (fun x => col9 x = 3 ∨ col9 x = 4) h9 h13 := (n11.fr.mono fun _ _ x => x.elim).trans f13 fun b hb hF => by rw [ag11 b hb] at hF; exact hF
  have z3 : ∀ b, b < h9.size → col9 b = 0 → ¬ (col9 b = 3 ∨ col9 b = 4) := fun b _ h1 h2 => by omega
  have R13 := R9.keep G13 AG13 z3
  have W13 := W9.keep G13 AG13 z3
  have mF : ∀ b, b < h9.size → (From h2.size b ∧ b < h3.size) → col9 b = 0 := fun b _ hF => cz9 b (by have : h2.size ≤ b := hF.1; omega)
  have m13 := m9.fr G13 fun b hb hF => z3 b hb (mF b hb hF)
  have rm13 : rd h13 h3.size = E.v (markE n) := (G13.rd (by omega) (z3 _ (by omega) (cz9 _ (by omega)))).trans rm9
  -- row 1
  refine os ⟨_, _, _, bk13.cell (k := 1) (by omega), New.intro fun h14 n14 => ?_⟩
  have hs14 := n14.size
  have bkx14 : Bk h14 col13 bB as13 _ := bk13.quiet n14.fr (Ag.refl _ _) fun _ _ x => x.elim
  refine ⟨bkx14.cell (by omega), es.flatMap E.v, by rw [flat_length E.v 3 _ (fun x _ => E.len x), hwl], SlCells.fr n14.fr W13.1 fun _ _ x => x, fun v hv => by obtain ⟨x, _, hx⟩ := List.mem_flatMap.mp hv; exact E.one x v hx, ?_⟩
  have sn : Sl h14 3 (some ⟨h13.size, 0, none⟩) 0 0 [] (fun x => x = h13.size) := Sl.made (zs := []) n14 rfl rfl rfl (Nat.le_refl _) rfl
  have hbytes : (ti30).bytes = 32 := rfl
  refine append_own (elem := ti30) sn (by rw [flat_length E.v 3 _ (fun x _ => E.len x), hwl]; rfl) rfl (by rw [hbytes]; omega) (by omega) fun a7 cc7 h15 f15 s15 => ?_
  have hs15 := f15.size
  have s15 : Sl h15 3 a7 (0 + wL) cc7 (es.flatMap E.v) (fun x => h13.size ≤ x) := (show Sl h15 3 a7 (0 + wL) cc7 ([] ++ es.flatMap E.v) _ from s15).mono fun b hb => by rcases hb with hb | hb <;> omega
  have f1315 : Fr No h13 h15 := n14.fr.trans f15 fun b hb hF => by omega
  have ag15 : Ag h13.size col13 (upd col13 h13.size 0) := ag_upd _ _ _
  have cz15 : ∀ b, h13.size ≤ b → upd col13 h13.size 0 b = 0 := fun b hb => upd_ge hb
  generalize upd col13 h13.size 0 = col15 at ag15 cz15
  have bk15 : Bk h15 col15 bB as13 _ := bk13.quiet f1315 ag15 fun _ _ x => x.elim
  have S15 : Fz h15 col15 a7 (es.flatMap E.v) := Fz.of s15 fun b _ hF => cz15 b hF
  have R15 := R13.keep f1315 ag15 fun _ _ _ x => x
  have m15 := m13.fr f1315 fun _ _ _ x => x
  refine ⟨bk15.cell (by omega), New.intro fun h16 n16 => ?_⟩
  have hs16 := n16.size
  have bk16 : Bk h16 col15 bB as13 _ := bk15.quiet n16.fr (Ag.refl _ _) fun _ _ x => x.elim
  refine ⟨bk16.cell (by omega), [sv (a7, 0 + wL, cc7)], rfl, cellsAll n16.rd, fun v hv => by rw [List.mem_singleton.mp hv]; rfl, ?_⟩
  refine bk16.push (k := 1) (by omega) (by simp only [if_neg (show ¬ 1 = 0 by omega)]; rw [hn 1 (by omega)]; exact hb) fun h18 col18 as18 f18 ag18 hs18 bk18 => ?_
  have AG18 : Ag h15.size col15 col18 := ag18.le (by omega)
  have G18 : Fr (fun x => col15 x = 3 ∨ col15 x = 5) h15 h18 := (n16.fr.mono fun _ _ x => x.elim).trans f18 fun b hb hF => hF
  have z18 : ∀ b, b < h15.size → col15 b = 0 → ¬ (col15 b = 3 ∨ col15 b = 5) := fun b _ h1 h2 => by omega
  have R18 := R15.keep G18 AG18 z18
  have S18 := S15.keep G18 AG18 z18
  have mc15 : ∀ b, b < h9.size → h0.size ≤ b → col15 b = 0 := fun b hb h1 => by rw [ag15 b (by omega), AG13 b hb]; exact cz9 b h1
  have m18 := m15.fr G18 fun b hb hF => z18 b hb (mc15 b (by have := hF.2; omega) (by have : h2.size ≤ b := hF.1; omega))
  have rm18 : rd h18 h3.size = E.v (markE n) := (G18.rd (by omega) (z18 _ (by omega) (mc15 _ (by omega) (by omega)))).trans ((f1315.rd (by omega) fun x => x).trans rm13)
  have mc18 : ∀ b, b < h9.size → h0.size ≤ b → col18 b = 0 := fun b hb h1 => by rw [AG18 b (by omega)]; exact mc15 b hb h1
  -- row 2
  refine os ⟨_, _, _, bk18.cell (k := 2) (by omega), New.intro fun h19 n19 => ⟨[sv (a2, l2, cc2)], rfl, cellsAll n19.rd, fun v hv => by rw [List.mem_singleton.mp hv]; rfl, ?_⟩⟩
  have hs19 := n19.size
  have bk19 : Bk h19 col18 bB as18 _ := bk18.quiet n19.fr (Ag.refl _ _) fun _ _ x => x.elim
  refine bk19.push (k := 2) (by omega) (by simp only [if_neg (show ¬ 2 = 1 by omega), if_neg (show ¬ 2 = 0 by omega)]; rw [hn 2 (by omega)]; exact hb) fun h21 col21 as21 f21 ag21 hs21 bk21 => ?_
  have AG21 : Ag h18.size col18 col21 := ag21.le (by omega)
  have G21 : Fr (fun x => col18 x = 3 ∨ col18 x = 6) h18 h21 := (n19.fr.mono fun _ _ x => x.elim).trans f21 fun b hb hF => hF
  have z21 : ∀ b, b < h18.size → col18 b = 0 → ¬ (col18 b = 3 ∨ col18 b = 6) := fun b _ h1 h2 => by omega
  have R21 := R18.keep G21 AG21 z21
  have S21 := S18.keep G21 AG21 z21
  have m21 := m18.fr G21 fun b hb hF => z21 b hb (mc18 b (by have := hF.2; omega) (by have : h2.size ≤ b := hF.1; omega))
  have rm21 : rd h21 h3.size = E.v (markE n) := (G21.rd (by omega) (z21 _ (by omega) (mc18 _ (by omega) (by omega)))).trans rm18
  have mc21 : ∀ b, b < h9.size → h0.size ≤ b → col21 b = 0 := fun b hb h1 => by rw [AG21 b (by omega)]; exact mc18 b hb h1
  -- row 3
  refine os ⟨_, _, _, bk21.cell (k := 3) (by omega), E.v (markE n), rfl, cellsAll rm21, rfl, New.intro fun h22 n22 => ?_⟩
  have hs22 := n22.size
  have bk22 : Bk h22 col21 bB as21 _ := bk21.quiet n22.fr (Ag.refl _ _) fun _ _ x => x.elim
  refine ⟨bk22.cell (by omega), E.v (markE n), rfl, cellsAll n22.rd, E.one _, ?_⟩
  have m22 := m21.fr n22.fr fun _ _ _ x => x
  refine append_both (elem := ti30) m22 rfl rfl (by rw [hbytes]; omega) (by omega) fun a12 cc12 h23 f23 s23 m23 => ?_
  have hs23 := f23.size
  have ag22 : Ag h21.size col21 (upd col21 h21.size 0) := ag_upd _ _ _
  have cz22 : ∀ b, h21.size ≤ b → upd col21 h21.size 0 b = 0 := fun b hb => upd_ge hb
  generalize upd col21 h21.size 0 = col23 at ag22 cz22
  have G23 : Fr (fun x => From h2.size x ∧ x < h3.size) h21 h23 := (n22.fr.mono fun _ _ x => x.elim).trans f23 fun b hb hF => hF
  have bk23 : Bk h23 col23 bB as21 _ := bk21.quiet G23 ag22 fun b hb hF => by
    left; rw [mc21 b (by have := hF.2; omega) (by have : h2.size ≤ b := hF.1; omega)]; omega
  have R23 : Fz h23 col23 a1 (es.flatMap E.v) := by
    refine ⟨SlCells.fr G23 R21.1 fun p e hF => ?_, fun p e => ?_⟩
    · subst e
      have : p.block < h2.size := by have := r1.2.2.1; exact this.2
      have : h2.size ≤ p.block := hF.1
      omega
    · obtain ⟨x1, x2⟩ := R21.2 p e
      exact ⟨by omega, (ag22 _ x1).trans x2⟩
  have S23 : Fz h23 col23 a7 (es.flatMap E.v) := by
    refine ⟨SlCells.fr G23 S21.1 fun p e hF => ?_, fun p e => ?_⟩
    · subst e
      have : h13.size ≤ p.block := s15.2.2.1
      have := hF.2
      omega
    · obtain ⟨x1, x2⟩ := S21.2 p e
      exact ⟨by omega, (ag22 _ x1).trans x2⟩
  have mc23 : ∀ b, b < h9.size → h0.size ≤ b → col23 b = 0 := fun b hb h1 => by rw [ag22 b (by omega)]; exact mc21 b hb h1
  have fz : Fz h23 col23 a2 ((List.replicate l2 (markE n)).flatMap E.v) := Fz.of m23 fun b hb hF => mc23 b (by have := hF.2; omega) (by have : h2.size ≤ b := hF.1; omega)
  have mz : Fz h23 col23 a12 ((List.replicate (l2 + 1) (markE n)).flatMap E.v) := by
    rw [List.replicate_succ', List.flatMap_append]
    refine Fz.of (show Sl h23 3 a12 (l2 + 1) cc12 _ _ from s23) fun b hb hF => ?_
    rcases hF with hF | hF
    · exact mc23 b (by have := hF.2; omega) (by have : h2.size ≤ b := hF.1; omega)
    · exact cz22 b (by omega)
  refine ⟨bk23.cell (by omega), New.intro fun h24 n24 => ?_⟩
  have hs24 := n24.size
  have bk24 : Bk h24 col23 bB as21 _ := bk23.quiet n24.fr (Ag.refl _ _) fun _ _ x => x.elim
  refine ⟨bk24.cell (by omega), [sv (a12, l2 + 1, cc12)], rfl, cellsAll n24.rd, fun v hv => by rw [List.mem_singleton.mp hv]; rfl, ?_⟩
  refine bk24.push (k := 3) (by omega) (by simp only [if_neg (show ¬ 3 = 2 by omega), if_neg (show ¬ 3 = 1 by omega), if_neg (show ¬ 3 = 0 by omega)]; rw [hn 3 (by omega)]; exact hb) fun h26 col26 as26 f26 ag26 hs26 bk26 => ?_
  have AG26 : Ag h23.size col23 col26 := ag26.le (by omega)
  have G26 : Fr (fun x => col23 x = 3 ∨ col23 x = 7) h23 h26 := (n24.fr.mono fun _ _ x => x.elim).trans f26 fun b hb hF => hF
  have z26 : ∀ b, b < h23.size → col23 b = 0 → ¬ (col23 b = 3 ∨ col23 b = 7) := fun b _ h1 h2 => by omega
  -- colours of the old blocks
  have C13 : Ag h0.size col0 col13 := ag9.trans AG13 (by omega)
  have C15 : Ag h0.size col0 col15 := C13.trans ag15 (by omega)
  have C18 : Ag h0.size col0 col18 := C15.trans AG18 (by omega)
  have C21 : Ag h0.size col0 col21 := C18.trans AG21 (by omega)
  have C23 : Ag h0.size col0 col23 := C21.trans ag22 (by omega)
  have C26 : Ag h0.size col0 col26 := C23.trans AG26 (by omega)
  have T13 : Fr (fun x => 3 ≤ col0 x ∧ col0 x ≤ 7) h0 h13 := (F9.mono fun _ _ x => x.elim).trans G13 fun b hb hF => by rw [ag9 b hb] at hF; omega
  have T15 := T13.no f1315
  have T18 : Fr (fun x => 3 ≤ col0 x ∧ col0 x ≤ 7) h0 h18 := T15.trans G18 fun b hb hF => by rw [C15 b hb] at hF; omega
  have T21 : Fr (fun x => 3 ≤ col0 x ∧ col0 x ≤ 7) h0 h21 := T18.trans G21 fun b hb hF => by rw [C18 b hb] at hF; omega
  have T23 : Fr (fun x => 3 ≤ col0 x ∧ col0 x ≤ 7) h0 h23 := T21.trans G23 fun b hb hF => by have : h2.size ≤ b := hF.1; omega
  have T26 : Fr (fun x => 3 ≤ col0 x ∧ col0 x ≤ 7) h0 h26 := T23.trans G26 fun b hb hF => by rw [C23 b hb] at hF; omega
  refine hK h26 col26 as26 ⟨(a1, l1, cc1), (a7, 0 + wL, cc7), (a2, l2, cc2), (a12, l2 + 1, cc12), es⟩ T26 C26 ?_ ⟨R23.keep G26 AG26 z26, e1, S23.keep G26 AG26 z26, by show es.length = 0 + wL; omega, fz.keep G26 AG26 z26, mz.keep G26 AG26 z26, al, by show l2 + 1 ≤ 17; omega⟩
  have e : ∀ k, k < 4 → (if k = 3 then (if k = 2 then (if k = 1 then (if k = 0 then Ls k ++ [sv (a1, l1, cc1)] else Ls k) ++ [sv (a7, 0 + wL, cc7)] else (if k = 0 then Ls k ++ [sv (a1, l1, cc1)] else Ls k)) ++ [sv (a2, l2, cc2)] else (if k = 1 then (if k = 0 then Ls k ++ [sv (a1, l1, cc1)] else Ls k) ++ [sv (a7, 0 + wL, cc7)] else (if k = 0 then Ls k ++ [sv (a1, l1, cc1)] else Ls k))) ++ [sv (a12, l2 + 1, cc12)] else (if k = 2 then (if k = 1 then (if k = 0 then Ls k ++ [sv (a1, l1, cc1)] else Ls k) ++ [sv (a7, 0 + wL, cc7)] else (if k = 0 then Ls k ++ [sv (a1, l1, cc1)] else Ls k)) ++ [sv (a2, l2, cc2)] else (if k = 1 then (if k = 0 then Ls k ++ [sv (a1, l1, cc1)] else Ls k) ++ [sv (a7, 0 + wL, cc7)] else (if k = 0 then Ls k ++ [sv (a1, l1, cc1)] else Ls k)))) = (if k < 4 then Ls k ++ [Rc.sel ⟨(a1, l1, cc1), (a7, 0 + wL, cc7), (a2, l2, cc2), (a12, l2 + 1, cc12), es⟩ k] else Ls k) := by
    intro k hk
    obtain rfl | rfl | rfl | rfl : k = 0 ∨ k = 1 ∨ k = 2 ∨ k = 3 := by omega
    all_goals rfl
  exact ⟨bk26.own, bk26.colb, bk26.rd, fun k hk => (bk26.len k hk).trans (congrArg List.length (e k hk)), fun k hk => by have := bk26.sl k hk; simp only [e k hk] at this; exact this⟩
end Go.Proofs.YtgpkcakanieodaaDoor.Ss
