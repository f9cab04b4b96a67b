/-
  PACKAGE bolelaw03: marks, unmarked, copies.
-/
import Derived.Test.YtnbfaokpaiiojaaAfB
namespace Go.Proofs.Ytnbfaokpaiiojaa.L3
open Go Go.Proofs Go.Proofs.Ytnbfaokpaiiojaa.Wx Go.Proofs.Ytnbfaokpaiiojaa.Hp Go.Proofs.Ytnbfaokpaiiojaa.W Go.Proofs.Ytnbfaokpaiiojaa.Ad

theorem bool_one (xs : List Bool) : ∀ v ∈ xs.map Value.bool, v.oneCell' = true := by
  intro v hv; obtain ⟨b, _, rfl⟩ := List.mem_map.mp hv; rfl
theorem marks_spec {a : Option Addr} {l c : Nat} {xs : List Bool} {h : Heap} {K : Value → Heap → Prop} (B : SlCells h a (xs.map .bool)) (hx : xs.length = l) (hl : l < 140737488355328)
    (hK : ∀ a' c' h', Fr No h h' → Sl h' 1 a' (l + 1) c' ((xs ++ [true]).map .bool) (From h.size) → K (.tuple #[.slice a' l c', .slice a' (l + 1) c']) h') : C.bolelaw03_marks a l c h K := by
  have hn : (xs.map Value.bool).length = l * 1 := by rw [List.length_map, hx, Nat.mul_one]
  refine bolelaw03_marks.ok ⟨_, hn, B, bool_one xs, append_nil hn rfl (by show l * 1 ≤ _; omega) (by omega) fun a1 c1 h1 f1 t1 => New.intro fun h3 n3 => ?_⟩
  have hs1 := f1.size
  have hs3 := n3.size
  refine ⟨[.bool true], rfl, cellsAll n3.rd, by intro v hv; rw [List.mem_singleton.mp hv]; rfl, ?_⟩
  refine append_own (t1.fr n3.fr fun _ _ _ x => x) rfl rfl (by show (l + 1) * 1 ≤ _; omega) (by omega) fun a2 c2 h4 f4 t4 => ?_
  have hle := t4.le
  refine ⟨⟨by omega, by omega⟩, ?_⟩
  rw [Int.toNat_natCast]
  refine hK a2 c2 h4 ((f1.new n3).trans f4 fun b hb e => by have : h.size ≤ b := e; omega) ?_
  rw [List.map_append]
  exact t4.mono fun b hb => by rcases hb with hb | hb; exact hb; show h.size ≤ b; omega
theorem unmarked_spec {fa ba : Option Addr} {l fc bc : Nat} {xs : List Bool} {h : Heap} {K : Value → Heap → Prop} {F : Nat → Prop} (s : Sl h 1 fa (l + 1) fc ((xs ++ [true]).map .bool) F) (B : SlCells h ba (xs.map .bool)) (hx : xs.length = l) (hl : l < 140737488355328)
    (hK : ∀ h' (ys : List Bool), Fr F h h' → Sl h' 1 fa (l + 1) fc (ys.map .bool) F → K (.bool true) h') : C.bolelaw03_unmarked fa (l + 1) fc ba l bc h K := by
  obtain ⟨p, rfl, c⟩ := s.get (by omega)
  refine bolelaw03_unmarked.ok ⟨⟨by omega, by omega⟩, os ⟨true, ?_, ?_⟩⟩
  · rw [Int.toNat_natCast]
    exact c l _ (by rw [List.map_append, List.getElem?_append_right (by rw [List.length_map]; omega), List.length_map, hx, Nat.sub_self]; rfl)
  refine ⟨fun ok n hh => 0 ≤ n ∧ n ≤ l ∧ ok = true ∧ h = hh, fun _ n _ => ((l : Int) - n).toNat, ⟨by omega, by omega, rfl, rfl⟩, ?_⟩
  rintro ok n _ ⟨n0, n1, rfl, rfl⟩
  refine cd (fun hn => ct rfl ?_) fun hn => ?_
  · have hn' : n.toNat < xs.length := by omega
    cases ba with
    | none => have B : xs.map Value.bool = [] := B; have := List.map_eq_nil_iff.mp B; rw [this] at hn'; exact absurd hn' (by simp)
    | some q =>
      refine ⟨⟨n0, by omega⟩, os ⟨xs[n.toNat], c n.toNat _ (by rw [List.map_append, List.getElem?_append_left (by rw [List.length_map]; exact hn'), List.getElem?_eq_getElem (by rw [List.length_map]; exact hn'), List.getElem_map]), ⟨n0, hn⟩, os ⟨xs[n.toNat], B n.toNat _ (by rw [List.getElem?_eq_getElem (by rw [List.length_map]; exact hn'), List.getElem_map]), ?_⟩⟩⟩
      rw [wrap_i64 (by omega) (by omega)]
      exact ⟨⟨by omega, by omega, by cases xs[n.toNat] <;> rfl, rfl⟩, falls hn⟩
  · refine ⟨fun n hh => 0 ≤ n ∧ n ≤ ((l + 1 : Nat) : Int) ∧ Fr F h hh ∧ ∃ ys : List Bool, Sl hh 1 (some p) (l + 1) fc (ys.map .bool) F, fun n _ => (((l + 1 : Nat) : Int) - n).toNat, ⟨by omega, by omega, Fr.refl _ _, _, s⟩, ?_⟩
    rintro i h2 ⟨i0, i1, f2, ys, s2⟩
    refine cd (fun hi => ?_) fun hi => hK _ ys f2 s2
    obtain ⟨p', e1, c2⟩ := s2.get (by omega)
    have e1 := Option.some.inj e1
    subst e1
    have e := s2.mk
    obtain ⟨b, o, sp⟩ := p
    have e : sp = none := by simpa using e
    subst e
    have hl2 := s2.1
    have hi' : i.toNat < (ys.map Value.bool).length := by rw [hl2]; omega
    have hi2 : i.toNat < ys.length := by rw [List.length_map] at hi'; exact hi'
    obtain ⟨w1, w2⟩ := s2.wr
    have hb : F b := s2.2.2.1
    refine ⟨⟨i0, hi⟩, os ⟨ys[i.toNat], c2 i.toNat _ (by rw [List.getElem?_eq_getElem hi', List.getElem_map]), ⟨i0, hi⟩, os (Put.add w1 (by omega) fun h3 d3 => ?_)⟩⟩
    rw [wrap_i64 (by omega) (by omega)]
    refine ⟨⟨by omega, by omega, f2.did d3 (fun _ => hb), ?_⟩, falls (m := l + 1) hi⟩
    have s3 := s2.putAt (j := i.toNat) (new := [_]) (by rw [List.length_singleton]; omega) d3
    rw [show put (ys.map Value.bool) i.toNat [Value.bool (!ys[i.toNat])] = (ys.map Value.bool).set i.toNat (Value.bool (!ys[i.toNat])) from rfl, ← List.map_set] at s3
    exact ⟨_, s3⟩

/-- copied acts: each with its own bytes, a mark behind them -/
def full (e : Ent) : Value := .slice e.a (e.l + 1) e.c
def Own_ (h : Heap) (col : Nat → Nat) (es : List Ent) (ys : List (List UInt8)) : Prop :=
  es.length = ys.length ∧ ∀ i (h1 : i < es.length) (h2 : i < ys.length), Sl h 1 es[i].a (es[i].l + 1) es[i].c (ys[i].map bv) (On col (100 + i))
theorem Own_.keep {h h' : Heap} {col col' : Nat → Nat} {es : List Ent} {ys : List (List UInt8)} {F : Nat → Prop} (o : Own_ h col es ys) (f : Fr F h h') (g : Ag h.size col col') (hF : ∀ b, 100 ≤ col b → ¬ F b) : Own_ h' col' es ys :=
  ⟨o.1, fun i h1 h2 => (o.2 i h1 h2).keep f g fun b hb => hF b (by omega)⟩
structure Cps (h0 h : Heap) (col0 col : Nat → Nat) (ma : Option Addr) (ml mc : Nat) (fa : Option Addr) (fc : Nat) (es : List Ent) (ts : List Tt) (more : List Value) : Prop where
  fr : Fr No h0 h
  ag : Ag h0.size col0 col
  row : Sl h 3 ma ml mc (es.flatMap Ent.cells ++ more) (On col 3)
  all : Sl h 1 fa es.length fc (es.map full) (On col 5)
  own : Own_ h col es (ts.map fun t => t.2.2 ++ [165])
  alike : Alike es ts
theorem copies_spec {aa : Option Addr} {al ac : Nat} {es : List Ent} {ts : List Tt} {h : Heap} {K : Value → Heap → Prop} (col : Nat → Nat) (hcol : ∀ b, b < h.size → col b < 3)
    (R : Rot h aa al es ts) (hal : al ≤ 10000000) (hbl : ∀ t ∈ ts, t.2.2.length < 100000000)
    (hK : ∀ ma mc fa fc h' col' es', es'.length = al → Cps h h' col col' ma (al + 1) mc fa fc es' ts (Ent.cells ⟨-99, 0, none, 0, 0⟩) → al + 1 ≤ mc → K (.tuple #[.slice ma al mc, .slice fa al fc]) h') : C.bolelaw03_copies aa al ac h K := by
  have hn := R.num
  refine bolelaw03_copies.ok ⟨fun ma ml mc fa fl fc n hh => 0 ≤ n ∧ n ≤ al ∧ ml = n.toNat ∧ fl = n.toNat ∧ ∃ col' es', es'.length = n.toNat ∧ Cps h hh col col' ma ml mc fa fc es' (ts.take n.toNat) [], fun _ _ _ _ _ _ n _ => ((al : Int) - n).toNat,
    ⟨by omega, by omega, rfl, rfl, col, [], rfl, ⟨Fr.refl _ _, Ag.refl _ _, Sl.nil _ _ _, Sl.nil _ _ _, ⟨rfl, fun i h1 => absurd h1 (Nat.not_lt_zero _)⟩, ⟨rfl, fun i h1 => absurd h1 (Nat.not_lt_zero _)⟩⟩⟩, ?_⟩
  rintro ma ml mc fa fl fc n h2 ⟨n0, n1, rfl, rfl, cl, es', hes, P⟩
  have hs2 := P.fr.size
  have hlow : ∀ b, b < h.size → cl b < 3 := fun b hb => by rw [P.ag b hb]; exact hcol b hb
  refine cd (fun hi => ?_) fun hi => ?_
  · obtain ⟨p, e, rfl, cc, x1, x2, x3, hit, _⟩ := (R.fr P.fr).cell (i := n.toNat) (by omega)
    have ek : (ts.getD n.toNat (0, 0, [])) = ts[n.toNat] := by rw [List.getD_eq_getElem?_getD, List.getElem?_eq_getElem hit]; rfl
    rw [ek] at x1 x2 x3
    have hlen := hbl _ (List.getElem_mem hit)
    have hel := x3.1
    refine ⟨⟨n0, hi⟩, os ⟨_, rfl, cc, NewRow.intro rfl (ent_one _) rfl fun h4 n4 => ⟨_, _, _, rda n4.rd rfl, ?_⟩⟩⟩
    have hs4 := n4.size
    have lt4 := n4.own.lt
    refine lent_spec (StrAt.fr n4.fr x3 fun _ _ x => x) (by omega) fun a5 c5 h5 f5 s5 => ⟨_, _, _, _, _, _, rfl, ?_⟩
    have hs5 := f5.size
    have r5 := (f5.rd lt4 fun x => x).trans n4.rd
    refine ⟨_, rda r5 rfl, _, rda r5 rfl, rfl, New.intro fun h6 n6 => ⟨_, rfl, cellsAll n6.rd, ent_one ⟨e.kind, e.at_, a5, e.l, c5⟩, ?_⟩⟩
    have hs6 := n6.size
    -- the colours so far: 7 for what is let go, 100 + n for the bytes
    have F6 : Fr No h2 h6 := ((Fr.refl No h2).new n4).no f5 |>.new n6
    generalize hc6 : (fun b => if b < h2.size then cl b else if h4.size ≤ b ∧ b < h5.size then 100 + n.toNat else 7) = col6
    have g6 : Ag h2.size cl col6 := fun b hb => by subst hc6; exact if_pos hb
    have v6 : ∀ b, h4.size ≤ b → b < h5.size → col6 b = 100 + n.toNat := fun b h1 h2 => by subst hc6; show (if _ then _ else _) = _; rw [if_neg (by omega), if_pos ⟨h1, h2⟩]
    have row6 := P.row.keep F6 g6 fun _ _ x => x
    have all6 := P.all.keep F6 g6 fun _ _ x => x
    have own6 := P.own.keep F6 g6 fun _ _ x => x
    have s6 : Sl h6 1 a5 (e.l + 1) c5 ((ts[n.toNat].2.2 ++ [165]).map bv) (On col6 (100 + n.toNat)) := (s5.fr n6.fr fun _ _ _ x => x).mono fun b hb => v6 b hb.1 hb.2
    rw [List.append_nil] at row6
    have low6 : ∀ b, b < h.size → col6 b < 3 := fun b hb => by rw [g6 b (by omega)]; exact hlow b hb
    refine append_col row6 rfl rfl (by show (n.toNat + 1) * 40 ≤ _; omega) (by omega) fun a7 c7 h7 f7 s7 => New.intro fun h8 n8 => ⟨[.slice a5 (e.l + 1) c5], rfl, cellsAll n8.rd, by intro v hv; rw [List.mem_singleton.mp hv]; rfl, ?_⟩
    have hs7 := f7.size
    have hs8 := n8.size
    have g7 : Ag h6.size col6 (upd col6 h6.size 3) := ag_upd _ _ _
    have all7 := all6.keep f7 g7 fun b hb x => by have x : col6 b = 3 := x; have hb : col6 b = 5 := hb; omega
    have own7 := own6.keep f7 g7 fun b hb x => by have x : col6 b = 3 := x; omega
    have s7' := s6.keep f7 g7 fun b hb x => by have x : col6 b = 3 := x; have hb : col6 b = 100 + n.toNat := hb; omega
    have g8 : Ag h7.size (upd col6 h6.size 3) (upd (upd col6 h6.size 3) h7.size 7) := ag_upd _ _ _
    have all8 := all7.keep n8.fr g8 fun _ _ x => x
    have own8 := own7.keep n8.fr g8 fun _ _ x => x
    have s8' := s7'.keep n8.fr g8 fun _ _ x => x
    have row8 := s7.keep n8.fr g8 fun _ _ x => x
    rw [hes] at all8
    generalize hc8 : upd (upd col6 h6.size 3) h7.size 7 = col8 at all8 own8 s8' row8 g8
    have low8 : ∀ b, b < h.size → col8 b < 3 := fun b hb => by rw [← hc8, upd_lt (by omega), upd_lt (by omega)]; exact low6 b hb
    refine append_col all8 rfl rfl (by show (n.toNat + 1) * 24 ≤ _; omega) (by omega) fun a9 c9 h9 f9 s9 => ?_
    have hs9 := f9.size
    have g9 : Ag h8.size col8 (upd col8 h8.size 5) := ag_upd _ _ _
    have row9 := row8.keep f9 g9 fun b hb x => by have x : col8 b = 5 := x; have hb : col8 b = 3 := hb; omega
    have own9 := own8.keep f9 g9 fun b hb x => by have x : col8 b = 5 := x; omega
    have s9' := s8'.keep f9 g9 fun b hb x => by have x : col8 b = 5 := x; have hb : col8 b = 100 + n.toNat := hb; omega
    rw [wrap_i64 (by omega) (by omega)]
    have e1 : (n + 1).toNat = n.toNat + 1 := by omega
    have gAll : Ag h2.size cl (upd col8 h8.size 5) := fun b hb => by
      rw [upd_lt (by omega), ← hc8, upd_lt (by omega), upd_lt (by omega)]; exact g6 b hb
    refine ⟨⟨by omega, by omega, by omega, by omega, upd col8 h8.size 5, es' ++ [⟨e.kind, e.at_, a5, e.l, c5⟩], by rw [List.length_append, List.length_singleton, hes, e1], ⟨?_, ?_, ?_, ?_, ?_, ?_⟩⟩, falls hi⟩
    · exact (((P.fr.no F6).trans f7 fun b hb x => by have x : col6 b = 3 := x; have := low6 b hb; omega).no n8.fr).trans f9 fun b hb x => by have x : col8 b = 5 := x; have := low8 b hb; omega
    · exact P.ag.trans gAll hs2
    · rw [List.append_nil, List.flatMap_append, List.flatMap_cons, List.flatMap_nil, List.append_nil]; exact row9
    · rw [List.map_append, List.length_append, List.length_singleton, hes]; exact s9
    · rw [e1, take_snoc _ _ hit, List.map_append]
      refine ⟨by rw [List.length_append, List.length_append, own9.1]; rfl, fun i h1 h2 => ?_⟩
      have hl1 : es'.length = (List.map (fun t : Tt => t.2.2 ++ [165]) (ts.take n.toNat)).length := own9.1
      by_cases hlt : i < es'.length
      · rw [List.getElem_append_left hlt, List.getElem_append_left (by rw [← hl1]; exact hlt)]
        exact own9.2 i hlt _
      · have : i = es'.length := by rw [List.length_append, List.length_singleton] at h1; omega
        subst this
        rw [List.getElem_append_right (Nat.le_refl _), List.getElem_append_right (by rw [hl1]; exact Nat.le_refl _)]
        simp only [Nat.sub_self, List.getElem_cons_zero, List.map_cons, List.map_nil, hl1]
        rw [hes] at hl1
        rw [← hl1]
        exact s9'
    · rw [e1, take_snoc _ _ hit]
      have al' := P.alike
      have hl2 := al'.len
      refine ⟨by rw [List.length_append, List.length_append, hl2]; rfl, fun i h1 h2 => ?_⟩
      by_cases hlt : i < es'.length
      · rw [List.getElem_append_left hlt, List.getElem_append_left (by rw [← hl2]; exact hlt)]
        exact al'.at_ i hlt _
      · have : i = es'.length := by rw [List.length_append, List.length_singleton] at h1; omega
        subst this
        rw [List.getElem_append_right (Nat.le_refl _), List.getElem_append_right (by rw [hl2]; exact Nat.le_refl _)]
        simp only [Nat.sub_self, List.getElem_cons_zero, hl2]
        exact ⟨x1, x2, x3.1.symm⟩
  · have hE : n.toNat = al := by omega
    rw [hE] at P hes
    rw [List.take_of_length_le (by omega)] at P
    refine ⟨rfl, New.intro fun h3 n3 => ⟨_, rfl, cellsAll n3.rd, ent_one ⟨-99, 0, none, 0, 0⟩, ?_⟩⟩
    have hs3 := n3.size
    have g3 : Ag h2.size cl (upd cl h2.size 7) := ag_upd _ _ _
    have row3 := P.row.keep n3.fr g3 fun _ _ x => x
    have all3 := P.all.keep n3.fr g3 fun _ _ x => x
    have own3 := P.own.keep n3.fr g3 fun _ _ x => x
    rw [hE]
    refine append_col row3 rfl rfl (by show (al + 1) * 40 ≤ _; omega) (by omega) fun a4 c4 h4 f4 s4 => ?_
    have g4 : Ag h3.size (upd cl h2.size 7) (upd (upd cl h2.size 7) h3.size 3) := ag_upd _ _ _
    have hle := s4.le
    refine ⟨⟨by omega, by omega⟩, ?_⟩
    rw [Int.toNat_natCast]
    refine hK a4 c4 fa fc h4 (upd (upd cl h2.size 7) h3.size 3) es' hes ⟨?_, ?_, ?_, ?_, ?_, P.alike⟩ hle
    · exact (P.fr.no n3.fr).trans f4 fun b hb x => by have x : upd cl h2.size 7 b = 3 := x; rw [upd_lt (by omega)] at x; have := hlow b hb; omega
    · exact P.ag.trans (g3.trans g4 (by omega)) hs2
    · rw [List.append_nil] at s4; exact s4
    · exact all3.keep f4 g4 fun b hb x => by have x : upd cl h2.size 7 b = 3 := x; have hb : upd cl h2.size 7 b = 5 := hb; omega
    · exact own3.keep f4 g4 fun b hb x => by have x : upd cl h2.size 7 b = 3 := x; omega
end Go.Proofs.Ytnbfaokpaiiojaa.L3
