/-
  PACKAGE bolelaw04: rooms: blocks as they are handed in, with the marks behind them; numbers with marks.
-/
import Derived.Test.YtnlmieklakolkaaDoorR4B
namespace Go.Proofs.YtnlmieklakolkaaDoor.Cr
open Go Go.Proofs Go.Proofs.YtnlmieklakolkaaDoor.Wx Go.Proofs.YtnlmieklakolkaaDoor.Hp Go.Proofs.YtnlmieklakolkaaDoor.W Go.Proofs.YtnlmieklakolkaaDoor.Su Go.Proofs.YtnlmieklakolkaaDoor.Re Go.Proofs.YtnlmieklakolkaaDoor.Hd

def Sc.cut (t : Sc) : Sc := ⟨t.a, t.l - 1, t.c⟩
def markL : List UInt8 := [109, 97, 114, 107]
structure Items (h : Heap) (ts : List Sc) (ds : List (List UInt8)) : Prop where
  len : ts.length = ds.length
  at_ : ∀ i (h1 : i < ts.length) (h2 : i < ds.length), StrAt h ts[i].a ts[i].l (ds[i] ++ [107]) ∧ ts[i].l ≤ ts[i].c
def RoomAt (h : Heap) (q : Nat) (ds : List (List UInt8)) : Prop :=
  ∃ dA dC fA fC, ∃ ts : List Sc, ∃ m : Addr, rd h q = [.slice dA (ds.length + 1) dC, .slice fA ds.length fC] ∧ SlCells h dA (ts.map (fun t => Sc.v (Sc.cut t)) ++ [.slice (some m) 4 4]) ∧ SlCells h fA (ts.map Sc.v) ∧ ds.length + 1 ≤ dC ∧ Items h ts ds ∧ StrAt h (some m) 4 markL
theorem Items.fr {h h' : Heap} {ts : List Sc} {ds : List (List UInt8)} (I : Items h ts ds) (f : Fr No h h') : Items h' ts ds :=
  ⟨I.len, fun i h1 h2 => ⟨StrAt.fr f (I.at_ i h1 h2).1 fun _ _ x => x, (I.at_ i h1 h2).2⟩⟩
theorem RoomAt.fr {h h' : Heap} {q : Nat} {ds : List (List UInt8)} (R : RoomAt h q ds) (f : Fr No h h') : RoomAt h' q ds := by
  obtain ⟨dA, dC, fA, fC, ts, m, r, d1, d2, hc, I, M⟩ := R
  have hq : q < h.size := rd_lt (show (rd h q)[0]? = some _ by rw [r]; rfl)
  exact ⟨dA, dC, fA, fC, ts, m, (f.rd hq fun x => x).trans r, SlCells.fr f d1 fun _ _ x => x, SlCells.fr f d2 fun _ _ x => x, hc, I.fr f, StrAt.fr f M fun _ _ x => x⟩
theorem Items.dat {h : Heap} {a : Option Addr} {ts : List Sc} {ds : List (List UInt8)} (I : Items h ts ds) (c : SlCells h a (ts.map fun t => Sc.v (Sc.cut t))) : Dat h a ds.length (ts.map Sc.cut) ds := by
  have hl := I.len
  refine ⟨by rw [List.map_map]; exact c, by rw [List.length_map]; exact hl, by rw [List.length_map]; exact hl, fun i h1 h2 => ?_⟩
  have h1' : i < ts.length := by rw [List.length_map] at h1; exact h1
  have s := (I.at_ i h1' h2).1
  have sl := s.1
  rw [List.length_append] at sl
  have sl : ds[i].length + 1 = ts[i].l := sl
  rw [List.getElem_map]
  have := StrAt.take s (n := ts[i].l - 1) (by omega)
  rw [show ts[i].l - 1 = ds[i].length by omega, List.take_left] at this
  show StrAt h ts[i].a (ts[i].l - 1) ds[i]
  rw [show ts[i].l - 1 = ds[i].length by omega]; exact this
theorem in_spec {q : Nat} {ds : List (List UInt8)} {h : Heap} {K : Value → Heap → Prop} (R : RoomAt h q ds) (hK : ∀ a c ss, Dat h a ds.length ss ds → K (.slice a ds.length c) h) : C.bolelaw04_Room_in (some ⟨q, 0, none⟩) h K := by
  obtain ⟨dA, dC, fA, fC, ts, m, r, d1, d2, hc, I, M⟩ := R
  refine bolelaw04_Room_in.ok (os ⟨_, _, _, rda r rfl, os ⟨_, _, _, rda r rfl, ⟨by omega, by omega⟩, ?_⟩⟩)
  refine hK dA dC (ts.map Sc.cut) (I.dat ?_)
  have := SlCells.take d1 ts.length
  rw [List.take_append_of_le_length (by rw [List.length_map]; exact Nat.le_refl _), List.take_of_length_le (by rw [List.length_map]; exact Nat.le_refl _)] at this
  exact this
theorem row_get {h : Heap} {a : Option Addr} {xs : List Value} (c : SlCells h a xs) {i : Nat} (hi : i < xs.length) : ∃ p, a = some p ∧ cellOf h (p.add i) = some xs[i] := by
  cases a with
  | none => have c : xs = [] := c; rw [c] at hi; exact absurd hi (by simp)
  | some p => exact ⟨p, rfl, c i _ (List.getElem?_eq_getElem hi)⟩
theorem kept_spec {q : Nat} {a : Option Addr} {l c : Nat} {ss : List Sc} {ds : List (List UInt8)} {h : Heap} {K : Value → Heap → Prop} (R : RoomAt h q ds) (D : Dat h a l ss ds) (hl : l * 24 ≤ 140737488351232) (hK : K (.bool true) h) : C.bolelaw04_Room_kept (some ⟨q, 0, none⟩) a l c h K := by
  obtain ⟨dA, dC, fA, fC, ts, m, r, d1, d2, hc, I, M⟩ := R
  have hn := D.num
  have hlen := D.len
  have htl := I.len
  refine bolelaw04_Room_kept.ok ⟨fun i hh => 0 ≤ i ∧ i ≤ l ∧ h = hh, fun i _ => ((l : Int) - i).toNat, ⟨by omega, by omega, rfl⟩, ?_⟩
  rintro i _ ⟨i0, i1, rfl⟩
  refine cd (fun hi => ?_) fun hi => ?_
  · obtain ⟨p, s, b, rfl, cp, hb, S⟩ := D.get (i := i.toNat) (by omega)
    have hi' : i.toNat < ds.length := by omega
    have hit : i.toNat < ts.length := by omega
    rw [List.getElem?_eq_getElem hi'] at hb
    have hb := Option.some.inj hb
    obtain ⟨pf, rfl, cf'⟩ := row_get d2 (i := i.toNat) (by rw [List.length_map]; omega)
    obtain ⟨pd, rfl, cd'⟩ := row_get d1 (i := i.toNat) (by rw [List.length_append, List.length_map]; omega)
    rw [List.getElem_map] at cf'
    rw [List.getElem_append_left (by rw [List.length_map]; exact hit), List.getElem_map] at cd'
    obtain ⟨st, _⟩ := I.at_ i.toNat hit hi'
    rw [hb] at st
    have sl := S.1
    have stl := st.1
    rw [List.length_append] at stl
    have stl : b.length + 1 = ts[i.toNat].l := stl
    have st1 := StrAt.take st (n := s.l) (by omega)
    rw [← sl, List.take_left] at st1
    have tc : ts[i.toNat].l - 1 = b.length := by omega
    refine ⟨⟨i0, hi⟩, os ⟨_, _, _, cp, os ⟨_, _, _, rda r rfl, ⟨i0, by omega⟩, os ⟨_, _, _, cf', os ⟨_, _, _, rda r rfl, ⟨i0, by omega⟩, os ⟨_, _, _, cd', b, ?_, b, S, ?_⟩⟩⟩⟩⟩⟩
    · show StrAt h ts[i.toNat].a (ts[i.toNat].l - 1) b
      rw [tc]; exact st1
    refine cnot (ct (beq_self_eq_true _) ⟨⟨by omega, by omega⟩, b, by rw [Int.toNat_natCast, ← sl]; exact st1, b, S, cnot (ct (beq_self_eq_true _) ⟨⟨by omega, by omega⟩, ?_⟩)⟩)
    obtain ⟨pt, ept, ct'⟩ := byte_get st (i := s.l) (by rw [List.length_append]; show s.l < b.length + 1; omega)
    rw [ept]
    refine os ⟨_, ct', cf ?_ ?_⟩
    · have : (b ++ [107])[s.l]'(by rw [List.length_append]; show s.l < b.length + 1; omega) = (107 : UInt8) := by
        simp only [← sl, List.getElem_append_right (Nat.le_refl _), Nat.sub_self, List.getElem_cons_zero]
      rw [this]; rfl
    rw [wrap_i64 (by omega) (by omega)]
    exact ⟨⟨by omega, by omega, rfl⟩, falls hi⟩
  · obtain ⟨pd, rfl, cd'⟩ := row_get d1 (i := l) (by rw [List.length_append, List.length_map]; show l < ts.length + 1; omega)
    refine os ⟨_, _, _, rda r rfl, ⟨by omega, by omega⟩, os ⟨some m, 4, 4, ?_, markL, M, ?_⟩⟩
    · have e : (ts.map (fun t => Sc.v (Sc.cut t)) ++ [Value.slice (some m) 4 4])[l]'(by rw [List.length_append, List.length_map]; show l < ts.length + 1; omega) = Value.slice (some m) 4 4 := by
        rw [List.getElem_append_right (by rw [List.length_map]; omega)]
        simp only [List.length_map, show l - ts.length = 0 by omega, List.getElem_cons_zero]
      rw [e] at cd'
      exact cd'
    · have : ((mkStr markL).toList == (mkStr [109, 97, 114, 107]).toList) = true := beq_self_eq_true _
      rw [this]; exact hK
theorem ints_spec {a : Option Addr} {l c : Nat} {ns : List Int} {h : Heap} {K : Value → Heap → Prop} (B : SlCells h a (ints ns)) (hn : ns.length = l) (hl : l * 8 ≤ 140737488351232)
    (hK : ∀ a' c' h', Fr No h h' → Sl h' 1 a' (l + 2) c' (ints (ns ++ [-71, -72])) (From h.size) → K (.slice a' l c') h') : C.bolelaw04_ints a l c h K := by
  have io : ∀ ns : List Int, ∀ v ∈ ints ns, v.oneCell' = true := fun ns v hv => by obtain ⟨b, _, rfl⟩ := List.mem_map.mp hv; rfl
  refine bolelaw04_ints.ok (New.intro fun h2 n2 => ⟨ints ns, by rw [ints, List.length_map, Nat.mul_one]; exact hn, SlCells.fr n2.fr B fun _ _ x => x, io ns, ?_⟩)
  refine append_from (xs := []) n2.fr (Sl.made n2 rfl (Nat.le_refl _) rfl (Nat.le_refl _) rfl) (by rw [ints, List.length_map, hn]; exact (Nat.mul_one _).symm) rfl (by show (0 + l) * 8 ≤ _; omega) (by omega) fun a3 c3 h3 f3 s3 => ?_
  rw [Nat.zero_add, List.nil_append] at s3
  rw [Nat.zero_add]
  refine New.intro fun h4 n4 => ⟨ints [-71, -72], rfl, cellsAll n4.rd, io _, ?_⟩
  refine append_from (f3.new n4) (s3.fr n4.fr fun _ _ _ x => x) rfl rfl (by show (l + 2) * 8 ≤ _; omega) (by omega) fun a5 c5 h5 f5 s5 => ⟨⟨by omega, ?_⟩, ?_⟩
  · have := s5.le; omega
  · refine hK a5 c5 h5 f5 ?_
    rw [ints, List.map_append]; exact s5
theorem room_spec {a : Option Addr} {l c : Nat} {ss : List Sc} {ds : List (List UInt8)} {h : Heap} {K : Value → Heap → Prop} (D : Dat h a l ss ds) (hl : l * 24 ≤ 140737488351232) (hd : ∀ d ∈ ds, d.length ≤ 140737488351232)
    (hK : ∀ h', Fr No h h' → RoomAt h' h.size ds → K (.pointer (some ⟨h.size, 0, none⟩)) h') : C.bolelaw04_room a l c h K := by
  have hn := D.num
  have hlen := D.len
  refine bolelaw04_room.ok (New.intro fun h2 n2 => ?_)
  have hs2 := n2.size
  refine ⟨fun i hh => 0 ≤ i ∧ i ≤ l ∧ Fr No h hh ∧ ∃ col dA dC fA fC, ∃ ts : List Sc, (∀ b, b < h.size → col b = 0) ∧ col h.size = 1 ∧ Own hh h.size ∧ rd hh h.size = [.slice dA i.toNat dC, .slice fA i.toNat fC] ∧
      Sl hh 1 dA i.toNat dC (ts.map fun t => Sc.v (Sc.cut t)) (On col 2) ∧ Sl hh 1 fA i.toNat fC (ts.map Sc.v) (On col 3) ∧ Items hh ts (ds.take i.toNat) ∧ ∀ t ∈ ts, ∀ p, t.a = some p → p.block < hh.size ∧ col p.block = 4,
    fun i _ => ((l : Int) - i).toNat, ⟨by omega, by omega, n2.fr, fun b => if b < h.size then 0 else 1, none, 0, none, 0, [], fun b hb => if_pos hb, if_neg (by omega), n2.own, n2.rd, Sl.nil _ _ _, Sl.nil _ _ _, ⟨rfl, fun i h1 => absurd h1 (Nat.not_lt_zero _)⟩, fun t ht => absurd ht List.not_mem_nil⟩, ?_⟩
  rintro i h3 ⟨i0, i1, f3, col, dA, dC, fA, fC, ts, base, cq, oq, rq, SD, SF, I, tb⟩
  have hs3 := f3.size
  have hq3 := oq.lt
  refine cd (fun hi => ?_) fun hi => ?_
  · obtain ⟨p, s, b, rfl, cp, hb, S⟩ := (D.fr f3).get (i := i.toNat) (by omega)
    have hi' : i.toNat < ds.length := by omega
    rw [List.getElem?_eq_getElem hi'] at hb
    have hb := Option.some.inj hb
    have hbl := hd _ (List.getElem_mem hi')
    rw [hb] at hbl
    have sl := S.1
    obtain ⟨q1, q2, q3⟩ := StrAt.src S
    refine ⟨⟨i0, hi⟩, os ⟨_, _, _, cp, New.intro fun h4 n4 => ⟨_, q1, SlCells.fr n4.fr q2 fun _ _ x => x, q3, ?_⟩⟩⟩
    refine append_from (xs := []) n4.fr (Sl.made n4 rfl (Nat.le_refl _) rfl (Nat.le_refl _) rfl) q1 rfl (by show (0 + s.l) * 1 ≤ _; omega) (by omega) fun a5 c5 h5 f5 s5 => ?_
    rw [Nat.zero_add, List.nil_append] at s5
    rw [Nat.zero_add]
    refine New.intro fun h6 n6 => ⟨[bv 107], rfl, cellsAll n6.rd, bv_one [107], ?_⟩
    refine append_from (f5.new n6) (s5.fr n6.fr fun _ _ _ x => x) rfl rfl (by show (s.l + 1) * 1 ≤ _; omega) (by omega) fun a7 c7 h7 f7 s7 => ?_
    have s7 : Sl h7 1 a7 (s.l + 1) c7 ((b ++ [107]).map bv) (From h3.size) := by rw [List.map_append]; exact s7
    have hs7 := f7.size
    have g7 : Ag h3.size col (upd col h3.size 4) := ag_upd _ _ _
    have lt7 : ∀ x, a7 = some x → x.block < h7.size ∧ upd col h3.size 4 x.block = 4 := fun x hx => by
      subst hx
      exact ⟨s7.lt, upd_ge s7.2.2.1⟩
    have st7 := s7.str
    have le7 := s7.le
    generalize hc7 : upd col h3.size 4 = col7 at g7 lt7
    have rq7 : rd h7 h.size = [.slice dA i.toNat dC, .slice fA i.toNat fC] := (f7.rd hq3 fun x => x).trans rq
    have oq7 := f7.own hq3 (fun x => x) oq
    have cq7 : col7 h.size = 1 := (g7 _ hq3).trans cq
    have base7 : ∀ b, b < h.size → col7 b = 0 := fun b hb => (g7 b (by omega)).trans (base b hb)
    have SD7 := SD.keep f7 g7 fun _ _ x => x
    have SF7 := SF.keep f7 g7 fun _ _ x => x
    have I7 := I.fr f7
    have tb7 : ∀ t ∈ ts, ∀ p, t.a = some p → p.block < h7.size ∧ col7 p.block = 4 := fun t ht p hp => by
      obtain ⟨e1, e2⟩ := tb t ht p hp
      exact ⟨by omega, (g7 _ e1).trans e2⟩
    refine ⟨_, _, _, rda rq7 rfl, New.intro fun h8 n8 => ⟨[.slice a7 (s.l + 1) c7], rfl, cellsAll n8.rd, by intro v hv; rw [List.mem_singleton.mp hv]; rfl, ?_⟩⟩
    have hs8 := n8.size
    have g8 : Ag h7.size col7 (upd col7 h7.size 7) := ag_upd _ _ _
    refine append_col (SF7.keep n8.fr g8 fun _ _ x => x) rfl rfl (by show (i.toNat + 1) * 24 ≤ _; omega) (by omega) fun a9 c9 h9 f9 s9 => ?_
    have hs9 := f9.size
    have g9 : Ag h8.size (upd col7 h7.size 7) (upd (upd col7 h7.size 7) h8.size 3) := ag_upd _ _ _
    have SD9 := (SD7.keep n8.fr g8 fun _ _ x => x).keep f9 g9 fun x hx e => by have e : upd col7 h7.size 7 x = 3 := e; omega
    have nF9 : ∀ b, b < h7.size → col7 b ≠ 3 → ¬ On (upd col7 h7.size 7) 3 b := fun b hb h2 e => by have e : upd col7 h7.size 7 b = 3 := e; rw [upd_lt hb] at e; exact h2 e
    have rq9 : rd h9 h.size = [.slice dA i.toNat dC, .slice fA i.toNat fC] := by rw [f9.rd (by omega) (nF9 _ (by omega) (by rw [cq7]; decide)), n8.at_ (by omega)]; exact rq7
    have oq9 : Own h9 h.size := f9.own (by omega) (nF9 _ (by omega) (by rw [cq7]; decide)) (n8.ow oq7)
    have G9 : Fr (fun b => col7 b = 1 ∨ col7 b = 2 ∨ col7 b = 3) h7 h9 := (n8.fr.mono fun _ _ x => x.elim).trans f9 fun b hb e => by have e : upd col7 h7.size 7 b = 3 := e; rw [upd_lt hb] at e; exact Or.inr (Or.inr e)
    have a79 : Ag h7.size col7 (upd (upd col7 h7.size 7) h8.size 3) := g8.trans g9 (by omega)
    generalize hc9 : upd (upd col7 h7.size 7) h8.size 3 = col9 at s9 SD9 a79 g9
    have cq9 : col9 h.size = 1 := (a79 _ (by omega)).trans cq7
    refine Put.add oq9 (by rw [rq9]; exact (by decide : 0 + 1 < 2)) fun h10 d10 => ?_
    have hs10 := d10.fr.size
    have e10 := d10.rd
    rw [rq9] at e10
    have nQ9 : ∀ x k, k ≠ 1 → col9 x = k → ¬ (fun b => b = h.size) x := fun x k hk hx e => by have e : x = h.size := e; rw [e, cq9] at hx; exact hk hx.symm
    have SD10 := SD9.keep d10.fr (Ag.refl _ _) fun x hx => nQ9 x 2 (by decide) hx
    have SF10 := s9.keep d10.fr (Ag.refl _ _) fun x hx => nQ9 x 3 (by decide) hx
    have G10 : Fr (fun b => col7 b = 1 ∨ col7 b = 2 ∨ col7 b = 3) h7 h10 := G9.did d10 fun _ => Or.inl cq7
    refine ⟨_, _, _, rda e10 rfl, ⟨by omega, by omega⟩, New.intro fun h11 n11 => ⟨rda ((n11.at_ d10.own.lt).trans e10) rfl, [.slice a7 s.l c7], rfl, cellsAll n11.rd, by intro v hv; rw [List.mem_singleton.mp hv]; rfl, ?_⟩⟩
    have hs11 := n11.size
    have g11 : Ag h10.size col9 (upd col9 h10.size 7) := ag_upd _ _ _
    refine append_col (SD10.keep n11.fr g11 fun _ _ x => x) rfl rfl (by show (i.toNat + 1) * 24 ≤ _; omega) (by omega) fun a12 c12 h12 f12 s12 => ?_
    have hs12 := f12.size
    have g12 : Ag h11.size (upd col9 h10.size 7) (upd (upd col9 h10.size 7) h11.size 2) := ag_upd _ _ _
    have SF12 := (SF10.keep n11.fr g11 fun _ _ x => x).keep f12 g12 fun x hx e => by have e : upd col9 h10.size 7 x = 2 := e; omega
    have nF12 : ∀ b, b < h10.size → col9 b ≠ 2 → ¬ On (upd col9 h10.size 7) 2 b := fun b hb h2 e => by have e : upd col9 h10.size 7 b = 2 := e; rw [upd_lt hb] at e; exact h2 e
    have rq12 := (f12.rd (by omega) (nF12 h.size (by omega) (by rw [cq9]; decide))).trans ((n11.at_ d10.own.lt).trans e10)
    have oq12 : Own h12 h.size := f12.own (by omega) (nF12 _ (by omega) (by rw [cq9]; decide)) (n11.ow d10.own)
    have G12 : Fr (fun b => col7 b = 1 ∨ col7 b = 2 ∨ col7 b = 3) h7 h12 := (G10.new n11).trans f12 fun b hb e => by
      have e : upd col9 h10.size 7 b = 2 := e
      rw [upd_lt (by omega), a79 _ hb] at e
      exact Or.inr (Or.inl e)
    have a712 : Ag h7.size col7 (upd (upd col9 h10.size 7) h11.size 2) := (a79.trans g11 (by omega)).trans g12 (by omega)
    generalize hc12 : upd (upd col9 h10.size 7) h11.size 2 = col12 at s12 SF12 a712 g12
    have cq12 : col12 h.size = 1 := (a712 _ (by omega)).trans cq7
    refine Put.add oq12 (by rw [rq12]; exact (by decide : 0 + 0 < 2)) fun h13 d13 => ?_
    have e13 := d13.rd
    rw [rq12] at e13
    have hs13 := d13.fr.size
    have nQ12 : ∀ x k, k ≠ 1 → col12 x = k → ¬ (fun b => b = h.size) x := fun x k hk hx e => by have e : x = h.size := e; rw [e, cq12] at hx; exact hk hx.symm
    have G13 : Fr (fun b => col7 b = 1 ∨ col7 b = 2 ∨ col7 b = 3) h7 h13 := G12.did d13 fun _ => Or.inl cq7
    have z3 : (i + 1).toNat = i.toNat + 1 := by omega
    rw [wrap_i64 (by omega) (by omega)]
    refine ⟨⟨by omega, by omega, ?_, col12, a12, c12, a9, c9, ts ++ [⟨a7, s.l + 1, c7⟩], ?_, cq12, d13.own, ?_, ?_, ?_, ?_, ?_⟩, falls hi⟩
    · exact (f3.trans f7 fun _ _ x => x).trans G13 fun b hb e => by rw [base7 b hb] at e; omega
    · intro b hb; rw [a712 b (by omega)]; exact base7 b hb
    · rw [e13, z3]; rfl
    · rw [z3, List.map_append]
      exact s12.keep d13.fr (Ag.refl _ _) fun x hx => nQ12 x 2 (by decide) hx
    · rw [z3, List.map_append]
      exact SF12.keep d13.fr (Ag.refl _ _) fun x hx => nQ12 x 3 (by decide) hx
    · have z4 : ds.take (i + 1).toNat = ds.take i.toNat ++ [b] := by rw [z3, List.take_succ_eq_append_getElem hi', hb]
      have il := I7.len
      rw [z4]
      refine ⟨by rw [List.length_append, List.length_append, il]; rfl, fun j h1 h2 => ?_⟩
      by_cases hj : j < ts.length
      · simp only [List.getElem_append_left hj, List.getElem_append_left (show j < (ds.take i.toNat).length by omega)]
        obtain ⟨w1, w2⟩ := I7.at_ j hj (by omega)
        exact ⟨StrAt.fr G13 w1 fun q hq e => by have := (tb7 _ (List.getElem_mem hj) q hq).2; omega, w2⟩
      · have hj2 : j = ts.length := by rw [List.length_append, List.length_singleton] at h1; omega
        subst hj2
        have q1 : (ts ++ [(⟨a7, s.l + 1, c7⟩ : Sc)])[ts.length]'h1 = ⟨a7, s.l + 1, c7⟩ := by rw [List.getElem_append_right (Nat.le_refl _)]; simp only [Nat.sub_self, List.getElem_cons_zero]
        have q2 : (ds.take i.toNat ++ [b])[ts.length]'h2 = b := by rw [List.getElem_append_right (by omega)]; simp only [il, Nat.sub_self, List.getElem_cons_zero]
        rw [q1, q2]
        exact ⟨StrAt.fr G13 st7 fun q hq e => by have := (lt7 q hq).2; omega, le7⟩
    · intro t ht q hq
      rcases List.mem_append.mp ht with ht | ht
      · obtain ⟨e1, e2⟩ := tb7 t ht q hq
        exact ⟨by omega, (a712 _ e1).trans e2⟩
      · rw [List.mem_singleton.mp ht] at hq
        obtain ⟨e1, e2⟩ := lt7 q hq
        exact ⟨by omega, (a712 _ e1).trans e2⟩
  · have ei : i.toNat = l := by omega
    rw [ei] at rq SD SF I
    rw [List.take_of_length_le (by omega)] at I
    refine ⟨_, _, _, rda rq rfl, New.intro fun h14 n14 => MarkAt.intro ?_⟩
    have hs14 := n14.size
    generalize hm15 : markH h14 (Addr.block ⟨h3.size, 0, none⟩) = h15
    have hs15 : h15.size = h3.size + 1 := by rw [← hm15, markH_size, hs14]
    have F15 : Fr No h3 h15 := by rw [← hm15]; exact Fr.markH n14.fr (Or.inr (Nat.le_refl _))
    have rm15 : rd h15 h3.size = markL.map bv := by rw [← hm15, markH_rd, n14.rd]; rfl
    refine New.intro fun h16 n16 => ⟨[.slice (some ⟨h3.size, 0, none⟩) 4 4], rfl, cellsAll n16.rd, by intro v hv; rw [List.mem_singleton.mp hv]; rfl, ?_⟩
    have hs16 := n16.size
    have F16 := F15.new n16
    have g16 : Ag h3.size col (upd col h3.size 7) := ag_upd _ _ _
    refine append_col (SD.keep F16 g16 fun _ _ x => x) rfl rfl (by show (l + 1) * 24 ≤ _; omega) (by omega) fun a17 c17 h17 f17 s17 => ?_
    have hs17 := f17.size
    have cq16 : upd col h3.size 7 h.size = 1 := (g16 _ hq3).trans cq
    have nF : ∀ b, upd col h3.size 7 b ≠ 2 → ¬ On (upd col h3.size 7) 2 b := fun b h2 e => h2 e
    have rq16 : rd h16 h.size = [.slice dA l dC, .slice fA l fC] := (F16.rd hq3 fun x => x).trans rq
    have rq17 := (f17.rd (by omega) (nF h.size (by rw [cq16]; decide))).trans rq16
    have oq17 : Own h17 h.size := f17.own (by omega) (nF _ (by rw [cq16]; decide)) (F16.own hq3 (fun x => x) oq)
    refine Put.add oq17 (by rw [rq17]; exact (by decide : 0 + 0 < 2)) fun h18 d18 => ?_
    have e18 := d18.rd
    rw [rq17] at e18
    have G18 : Fr (fun b => upd col h3.size 7 b = 1 ∨ upd col h3.size 7 b = 2) h16 h18 := (f17.mono fun _ _ e => Or.inr e).did d18 fun _ => Or.inl cq16
    have s18 := s17.cells
    have g17 : upd (upd col h3.size 7) h16.size 2 h.size = 1 := by rw [upd_lt (by omega)]; exact cq16
    have s18 := SlCells.fr d18.fr s18 fun q hq e => by
      have e : q.block = h.size := e
      subst hq
      have : upd (upd col h3.size 7) h16.size 2 q.block = 2 := s17.2.2.1
      rw [e, g17] at this; omega
    refine hK h18 ?_ ⟨a17, c17, fA, fC, ts, ⟨h3.size, 0, none⟩, ?_, s18, ?_, ?_, ?_, ?_⟩
    · exact ((f3.trans F16 fun _ _ x => x).trans G18 fun b hb e => by rw [upd_lt (by omega), base b hb] at e; omega)
    · rw [e18, ← hlen, hn]; rfl
    · refine SlCells.fr G18 (SF.keep F16 g16 fun _ _ x => x).cells fun q hq e => ?_
      subst hq
      have w : upd col h3.size 7 q.block = 3 := (SF.keep F16 g16 fun _ _ x => x).2.2.1
      omega
    · have := s17.le; omega
    · refine ⟨I.len, fun j h1 h2 => ?_⟩
      obtain ⟨w1, w2⟩ := I.at_ j h1 h2
      refine ⟨StrAt.fr G18 (StrAt.fr F16 w1 fun _ _ x => x) fun q hq e => ?_, w2⟩
      obtain ⟨e1, e2⟩ := tb _ (List.getElem_mem h1) q hq
      have := (g16 _ e1).trans e2
      omega
    · have st : StrAt h16 (some ⟨h3.size, 0, none⟩) 4 markL := strAll ((n16.at_ (by omega)).trans rm15) rfl
      refine StrAt.fr G18 st fun q hq e => ?_
      have hq : q = ⟨h3.size, 0, none⟩ := (Option.some.inj hq).symm
      subst hq
      have : upd col h3.size 7 h3.size = 7 := upd_ge (Nat.le_refl _)
      have e : upd col h3.size 7 h3.size = 1 ∨ upd col h3.size 7 h3.size = 2 := e
      omega
end Go.Proofs.YtnlmieklakolkaaDoor.Cr
