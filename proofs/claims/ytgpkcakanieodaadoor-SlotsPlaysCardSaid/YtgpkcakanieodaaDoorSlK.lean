/-
  SlotsPlays.
-/
import Derived.Test.YtgpkcakanieodaaDoorSlJ
namespace Go.Proofs.YtgpkcakanieodaaDoor.Ss
open Go Go.Proofs Go.Proofs.YtgpkcakanieodaaDoor.Wx Go.Proofs.YtgpkcakanieodaaDoor.Hp Go.Proofs.YtgpkcakanieodaaDoor.W Go.Proofs.YtgpkcakanieodaaDoor.Re Go.Proofs.YtgpkcakanieodaaDoor.Sk Go.Proofs.YtgpkcakanieodaaDoor.Ch

def lists (recs : List Rc) : Nat → List Value := fun k => recs.map fun r => Rc.sel r k
theorem Bk.congr {h : Heap} {col : Nat → Nat} {b : Nat} {ar : Nat → Option Addr × Nat × Nat} {Ls Ls' : Nat → List Value} (bk : Bk h col b ar Ls) (e : ∀ k, k < 4 → Ls k = Ls' k) : Bk h col b ar Ls' :=
  ⟨bk.own, bk.colb, bk.rd, fun k hk => by rw [← e k hk]; exact bk.len k hk, fun k hk => by rw [← e k hk]; exact bk.sl k hk⟩
theorem Bk.at_ {h : Heap} {col : Nat → Nat} {b : Nat} {ar : Nat → Option Addr × Nat × Nat} {recs : List Rc} (bk : Bk h col b ar (lists recs)) {k : Nat} (hk : k < 4) {i : Nat} (hi : i < recs.length) : ∃ p, (ar k).1 = some p ∧ cellOf h (Addr.add p i) = some (Rc.sel recs[i] k) := by
  have s := bk.sl k hk
  have hl := bk.len k hk
  have e : (lists recs k).length = recs.length := by rw [lists, List.length_map]
  obtain ⟨p, ep, c⟩ := s.get (by omega)
  exact ⟨p, ep, Cells.cell c (by rw [lists, List.getElem?_map, List.getElem?_eq_getElem hi]; rfl)⟩
theorem rep_at {h : Heap} {a : Option Addr} {m j : Nat} {e : E} (z : SlCells h a ((List.replicate m e).flatMap E.v)) (hj : j < m) : ∃ p, a = some p ∧ Cells h (p.add (j * 3)) (E.v e) := by
  obtain ⟨p, ep, c⟩ := part_at z E.len (by omega) (i := j) (by rw [List.length_replicate]; exact hj)
  rw [List.getElem_replicate] at c
  exact ⟨p, ep, c⟩
theorem Book_whole_spec {h0 : Heap} {col : Nat → Nat} {bB : Nat} {ar : Nat → Option Addr × Nat × Nat} {recs : List Rc} {K : Value → Heap → Prop} (bk : Bk h0 col bB ar (lists recs)) (rc : ∀ i (hi : i < recs.length), RcAt h0 col i recs[i]) (hl : recs.length ≤ 140737488355328)
    (hK : ∀ h', Fr No h0 h' → K (.bool true) h') : C.bolelaw14_Book_whole (some ⟨bB, 0, none⟩) h0 K := by
  have len : ∀ k, k < 4 → (ar k).2.1 = recs.length := fun k hk => by rw [bk.len k hk, lists, List.length_map]
  refine bolelaw14_Book_whole.ok ⟨fun i hh => 0 ≤ i ∧ i ≤ recs.length ∧ Fr No h0 hh, fun i _ => ((recs.length : Int) - i).toNat, ⟨by omega, by omega, Fr.refl _ _⟩, ?_⟩
  rintro i h2 ⟨i0, i1, f2⟩
  have q2 : Bk h2 col bB ar (lists recs) := bk.quiet f2 (Ag.refl _ _) fun _ _ x => x.elim
  refine os ⟨_, _, _, q2.cell (k := 0) (by omega), ?_⟩
  rw [len 0 (by omega)]
  refine cd (fun hi => ?_) fun hi => hK h2 f2
  have hi' : i.toNat < recs.length := by omega
  have r2 := (rc i.toNat hi').keep f2 (Ag.refl _ _) fun _ _ _ x => x
  obtain ⟨p0, e0, c0⟩ := q2.at_ (k := 0) (by omega) hi'
  obtain ⟨p1, e1, c1⟩ := q2.at_ (k := 1) (by omega) hi'
  refine os ⟨_, _, _, q2.cell (k := 0) (by omega), ?_⟩
  rw [len 0 (by omega), e0]
  refine ⟨⟨i0, hi⟩, os ⟨_, _, _, c0, os ⟨_, _, _, q2.cell (k := 1) (by omega), ?_⟩⟩⟩
  rw [len 1 (by omega), e1]
  have el := r2.el
  refine ⟨⟨i0, hi⟩, os ⟨_, _, _, c1, sameEntries_spec r2.raw.1 r2.rawl r2.was.1 r2.wasl (by rw [← r2.rawl]; omega) ⟨_, rfl, ?_⟩⟩⟩
  rw [decide_eq_true rfl, wrap_i64 (n := -2 - i) (by omega) (by omega)]
  have em : ([.int .i64 (-2 - i), .string (mkStr [109, 97, 114, 107]), .int .i64 0] : List Value) = E.v (markE i.toNat) := by
    show _ = [Value.int .i64 (-2 - ((i.toNat : Nat) : Int)), _, _]
    rw [Int.toNat_of_nonneg i0]; rfl
  rw [em]
  refine cf rfl (NewRow.intro rfl (E.one _) rfl fun h5 n5 => ?_)
  have f5 := f2.new n5
  have q5 : Bk h5 col bB ar (lists recs) := bk.quiet f5 (Ag.refl _ _) fun _ _ x => x.elim
  have r5 := (rc i.toNat hi').keep f5 (Ag.refl _ _) fun _ _ _ x => x
  obtain ⟨p2, e2, c2⟩ := q5.at_ (k := 2) (by omega) hi'
  obtain ⟨p3, e3, c3⟩ := q5.at_ (k := 3) (by omega) hi'
  have ml := r5.ml
  refine ⟨fun j hh => 0 ≤ j ∧ j ≤ (recs[i.toNat]).ma.2.1 ∧ h5 = hh, fun j _ => (((recs[i.toNat]).ma.2.1 : Int) - j).toNat, ⟨by omega, by omega, rfl⟩, ?_⟩
  rintro j _ ⟨j0, j1, rfl⟩
  refine os ⟨_, _, _, q5.cell (k := 3) (by omega), ?_⟩
  rw [len 3 (by omega), e3]
  refine ⟨⟨i0, hi⟩, os ⟨_, _, _, c3, cd (fun hj => ?_) fun hj => ?_⟩⟩
  · have nx : (0 ≤ IntKind.wrap .i64 (j + 1) ∧ IntKind.wrap .i64 (j + 1) ≤ (recs[i.toNat]).ma.2.1 ∧ h5 = h5) ∧ (((recs[i.toNat]).ma.2.1 : Int) - IntKind.wrap .i64 (j + 1)).toNat < (((recs[i.toNat]).ma.2.1 : Int) - j).toNat := by
      rw [wrap_i64 (n := j + 1) (by omega) (by omega)]
      exact ⟨⟨by omega, by omega, rfl⟩, by omega⟩
    refine os ⟨_, _, _, q5.cell (k := 3) (by omega), ?_⟩
    rw [len 3 (by omega), e3]
    obtain ⟨pm, epm, cm⟩ := rep_at r5.more.1 (j := j.toNat) (by omega)
    refine ⟨⟨i0, hi⟩, os ⟨_, _, _, c3, ⟨j0, hj⟩, ?_⟩⟩
    rw [epm]
    refine os ⟨E.v (markE i.toNat), rfl, cm, E.v (markE i.toNat), rfl, cellsAll n5.rd, E.eq.1, cnot ?_⟩
    rw [E.eq.2, decide_eq_true rfl]
    refine ct rfl (os ⟨_, _, _, q5.cell (k := 2) (by omega), ?_⟩)
    rw [len 2 (by omega), e2]
    refine ⟨⟨i0, hi⟩, os ⟨_, _, _, c2, cd (fun hf => ?_) fun _ => nx⟩⟩
    refine os ⟨_, _, _, q5.cell (k := 2) (by omega), ?_⟩
    rw [len 2 (by omega), e2]
    obtain ⟨pf, epf, cfm⟩ := rep_at r5.full.1 (j := j.toNat) (by omega)
    refine ⟨⟨i0, hi⟩, os ⟨_, _, _, c2, ⟨j0, hf⟩, ?_⟩⟩
    rw [epf]
    refine os ⟨E.v (markE i.toNat), rfl, cfm, E.v (markE i.toNat), rfl, cellsAll n5.rd, E.eq.1, cnot ?_⟩
    rw [E.eq.2, decide_eq_true rfl]
    exact ct rfl nx
  · rw [wrap_i64 (n := i + 1) (by omega) (by omega)]
    exact ⟨⟨by omega, by omega, f5⟩, by show ((recs.length : Int) - (i + 1)).toNat < ((recs.length : Int) - i).toNat; omega⟩
/-- a call of the script -/
structure OpR where
  kind : Int
  e : E
  at_ : Int
  by_ : UInt8
def OpR.v (o : OpR) : List Value := .int .i64 o.kind :: (E.v o.e ++ [.int .i64 o.at_, bv o.by_])
theorem OpR.len (o : OpR) : (OpR.v o).length = 6 := rfl
theorem OpR.one (o : OpR) : ∀ v ∈ OpR.v o, v.oneCell' = true := by
  intro v hv
  simp only [OpR.v, E.v, List.mem_cons, List.mem_append, List.not_mem_nil, or_false] at hv
  rcases hv with rfl | (rfl | rfl | rfl) | rfl | rfl <;> rfl
theorem refPut_any {a : Option Addr} {l c : Nat} {bs : List UInt8} {e : E} {F : Nat → Prop} {h : Heap} {K : Value → Heap → Prop} (s : Sl h 1 a l c (bs.map bv) F)
    (hK : ∀ h', Fr F h h' → Sl h' 1 a l c ((putA bs e).2.map bv) F → K (.int .i64 (putA bs e).1) h') : C.boleref14_Put a l c (E.v e) h K := by
  have hbl := s.1
  rw [List.length_map, Nat.mul_one] at hbl
  cases a with
  | none =>
    have hl : l = 0 := s.2.1
    have ea : putA bs e = (32, bs) := by rw [putA, if_pos (by omega)]
    rw [ea] at hK
    exact boleref14_Put.ok (New.intro fun h2 n2 => cn (fun _ => hK h2 (n2.fr.mono fun _ _ x => x.elim) (s.fr n2.fr fun _ _ _ x => x)) fun x => by omega)
  | some p =>
    obtain ⟨b, o, sp⟩ := p
    have es : sp = none := s.2.1
    subst es
    have hF : F b := s.2.2.1
    exact refPut_spec s fun h' d' => hK h' (d'.fr.mono fun x _ e => e ▸ hF) (Sl.all s (putA_length bs e) d')
theorem refClear_any {a : Option Addr} {l c : Nat} {bs : List UInt8} {k : Int} {F : Nat → Prop} {h : Heap} {K : Value → Heap → Prop} (s : Sl h 1 a l c (bs.map bv) F)
    (hK : ∀ h', Fr F h h' → Sl h' 1 a l c ((clrA bs k).2.map bv) F → K (.int .i64 (clrA bs k).1) h') : C.boleref14_Clear a l c k h K := by
  have hbl := s.1
  rw [List.length_map, Nat.mul_one] at hbl
  cases a with
  | none =>
    have hl : l = 0 := s.2.1
    have ea : clrA bs k = (32, bs) := by rw [clrA, if_pos (by omega)]
    rw [ea] at hK
    exact boleref14_Clear.ok (cn (fun _ => hK h (Fr.refl _ _) s) fun x => by omega)
  | some p =>
    obtain ⟨b, o, sp⟩ := p
    have es : sp = none := s.2.1
    subst es
    have hF : F b := s.2.2.1
    exact refClear_spec s fun h' d' => hK h' (d'.fr.mono fun x _ e => e ▸ hF) (Sl.all s (clrA_length bs k) d')
def tail3 : List UInt8 := [77, 78, 79]
/-- what holds between two calls of the script -/
structure Pl (h hh : Heap) (col : Nat → Nat) (mb mo l c2 : Nat) (wa : Option Addr) (wc bB : Nat) (ar : Nat → Option Addr × Nat × Nat) (recs : List Rc) (bm bw : List UInt8) : Prop where
  fr : Fr No h hh
  low : ∀ b, b < h.size → col b = 0
  lenm : bm.length = l
  lenw : bw.length = l
  full : Sl hh 1 (some ⟨mb, mo, none⟩) (l + 3) c2 ((bm ++ tail3).map bv) (On col 1)
  want : Sl hh 1 wa l wc (bw.map bv) (On col 2)
  bk : Bk hh col bB ar (lists recs)
  rc : ∀ i (hi : i < recs.length), RcAt hh col i recs[i]
theorem Pl.mine {h hh : Heap} {col : Nat → Nat} {mb mo l c2 : Nat} {wa : Option Addr} {wc bB : Nat} {ar : Nat → Option Addr × Nat × Nat} {recs : List Rc} {bm bw : List UInt8} (q : Pl h hh col mb mo l c2 wa wc bB ar recs bm bw) : Sl hh 1 (some ⟨mb, mo, none⟩) l c2 (bm.map bv) (On col 1) := by
  obtain ⟨e1, a1, a2, a3, a4, a5, a6⟩ := q.full
  have hl := q.lenm
  rw [List.length_map, List.length_append, hl] at e1 a5
  refine ⟨by rw [List.length_map, hl, Nat.mul_one], rfl, a2, a3, by omega, ?_, a6⟩
  have e2 : List.take l (List.map bv (bm ++ tail3)) = List.map bv bm := by
    rw [List.map_append, List.take_append_of_le_length (by rw [List.length_map]; omega), List.take_of_length_le (by rw [List.length_map]; omega)]
  have := congrArg (List.take l) a5
  rw [List.take_take, Nat.min_eq_left (by omega), e2] at this
  rw [List.length_map, hl]; exact this
theorem Pl.quiet {h hh h' : Heap} {col : Nat → Nat} {mb mo l c2 : Nat} {wa : Option Addr} {wc bB : Nat} {ar : Nat → Option Addr × Nat × Nat} {recs : List Rc} {bm bw : List UInt8} (q : Pl h hh col mb mo l c2 wa wc bB ar recs bm bw) (f : Fr No hh h') : Pl h h' (upd col hh.size 0) mb mo l c2 wa wc bB ar recs bm bw := by
  have ag : Ag hh.size col (upd col hh.size 0) := ag_upd _ _ _
  have hs := q.fr.size
  exact ⟨q.fr.no f, fun b hb => (ag b (by omega)).trans (q.low b hb), q.lenm, q.lenw, Sl.keep' q.full f ag fun _ _ _ x => x, Sl.keep' q.want f ag fun _ _ _ x => x, q.bk.quiet f ag fun _ _ x => x.elim, fun i hi => (q.rc i hi).keep f ag fun _ _ _ x => x⟩
/-- the other block is written -/
theorem Pl.onWant {h hh h' : Heap} {col : Nat → Nat} {mb mo l c2 : Nat} {wa : Option Addr} {wc bB : Nat} {ar : Nat → Option Addr × Nat × Nat} {recs : List Rc} {bm bw bw' : List UInt8} (q : Pl h hh col mb mo l c2 wa wc bB ar recs bm bw) (f : Fr (On col 2) hh h') (s : Sl h' 1 wa l wc (bw'.map bv) (On col 2)) (hl : bw'.length = l) : Pl h h' (upd col hh.size 0) mb mo l c2 wa wc bB ar recs bm bw' := by
  have ag : Ag hh.size col (upd col hh.size 0) := ag_upd _ _ _
  have hs := q.fr.size
  refine ⟨q.fr.trans f fun b hb hF => ?_, fun b hb => (ag b (by omega)).trans (q.low b hb), q.lenm, hl, Sl.keep' q.full f ag fun b _ h1 h2 => ?_, ?_, q.bk.quiet f ag fun b _ h2 => ?_, fun i hi => (q.rc i hi).keep f ag fun b _ h1 h2 => ?_⟩
  · have hF : col b = 2 := hF; rw [q.low b hb] at hF; omega
  · have h2 : col b = 2 := h2; omega
  · obtain ⟨h1, h2⟩ := s
    refine ⟨h1, ?_⟩
    have hw := q.want
    cases wa with
    | none => exact h2
    | some p => obtain ⟨x1, x2, x3, x4⟩ := h2; exact ⟨x1, (ag _ hw.lt).trans x2, x3, x4⟩
  · have h2 : col b = 2 := h2; omega
  · have h2 : col b = 2 := h2; omega
/-- one's own block is written -/
theorem Pl.onMine {h hh h' : Heap} {col : Nat → Nat} {mb mo l c2 : Nat} {wa : Option Addr} {wc bB : Nat} {ar : Nat → Option Addr × Nat × Nat} {recs : List Rc} {bm bw bm' : List UInt8} (q : Pl h hh col mb mo l c2 wa wc bB ar recs bm bw) (d : Wrote mb hh h' (put (rd hh mb) mo (bm'.map bv))) (hl : bm'.length = l) : Pl h h' (upd col hh.size 0) mb mo l c2 wa wc bB ar recs bm' bw := by
  have ag : Ag hh.size col (upd col hh.size 0) := ag_upd _ _ _
  have hs := q.fr.size
  have hmb : col mb = 1 := q.full.2.2.1
  have hlt := q.full.lt
  have lm := q.lenm
  have f := d.fr
  have s := Sl.wrote (j := 0) (new := bm'.map bv) q.full (by rw [List.length_map]; omega) d
  have ep : put ((bm ++ tail3).map bv) 0 (bm'.map bv) = (bm' ++ tail3).map bv := by
    rw [put_eq _ _ _ (by rw [List.length_map, List.length_map, List.length_append]; omega), List.take_zero, List.nil_append, Nat.zero_add, List.length_map, List.map_append, List.drop_append_of_le_length (by rw [List.length_map]; omega), List.drop_of_length_le (by rw [List.length_map]; omega), List.nil_append, List.map_append]
  rw [ep] at s
  refine ⟨q.fr.trans f fun b hb hF => ?_, fun b hb => (ag b (by omega)).trans (q.low b hb), hl, q.lenw, ?_, Sl.keep' q.want f ag fun b _ h1 h2 => ?_, q.bk.quiet f ag fun b _ h2 => ?_, fun i hi => (q.rc i hi).keep f ag fun b _ h1 h2 => ?_⟩
  · rw [hF, ] at hb; have := q.low mb hb; omega
  · obtain ⟨x0, x1, x2, x3⟩ := s
    exact ⟨x0, x1, (ag mb hlt).trans x2, x3⟩
  · have h2 : b = mb := h2; rw [h2] at h1; omega
  · have h2 : b = mb := h2; rw [h2]; omega
  · have h2 : b = mb := h2; rw [h2] at h1; omega
theorem SlotsPlays_spec {a sa : Option Addr} {l c sl sc : Nat} {bs : List UInt8} {ops : List OpR} {h : Heap} {K : Value → Heap → Prop} (g : Glo h) (B : StrAt h a l bs) (hl47 : l ≤ 140737488351232)
    (S : SlCells h sa (ops.flatMap OpR.v)) (hsl : ops.length = sl) (hs47 : sl * 56 ≤ 140737488351232) (hK : ∀ h', Fr No h h' → K (.bool true) h') : C.bolelaw14_SlotsPlays a l c sa sl sc h K := by
  have hg := g.lt
  have hbl := B.1
  refine bolelaw14_SlotsPlays.ok ?_
  unfold bolelaw14_SlotsPlays
  rw [Int.toNat_natCast]
  refine fixed_spec g fun h2 f2 => ⟨_, rfl, cf rfl ?_⟩
  refine copy_bytes (StrAt.fr f2 B fun _ _ x => x) hl47 fun a1 c1 h4 f4 hs4 m4 => New.intro fun h5 n5 => ⟨tail3.map bv, rfl, cellsAll n5.rd, bv_one _, ?_⟩
  have hs2 := f2.size
  have hs5 := n5.size
  have m5 := m4.fr n5.fr fun _ _ _ x => x
  have hbytes : (ti5).bytes = 1 := rfl
  refine append_own (elem := ti5) m5 rfl rfl (by rw [hbytes]; omega) (by omega) fun a2 c2 h6 f6 m6 => ?_
  have hs6 := f6.size
  have m6 : Sl h6 1 a2 (l + 3) c2 ((bs ++ tail3).map bv) (fun b => (h2.size ≤ b ∧ b < h4.size) ∨ h5.size ≤ b) := by rw [List.map_append]; exact m6
  have f46 : Fr (fun b => h2.size ≤ b) h4 h6 := (n5.fr.mono fun _ _ x => x.elim).trans f6 fun b _ hF => hF.1
  have F6 : Fr No h h6 := (f2.no f4).trans f46 fun b hb hF => by omega
  have M6 : Sl h6 1 a2 (l + 3) c2 ((bs ++ tail3).map bv) (fun x => h2.size ≤ x ∧ x < h6.size) := (Sl.below m6).mono fun b hb => ⟨by rcases hb.1 with x | x <;> omega, hb.2⟩
  obtain ⟨p, rfl, _⟩ := M6.get (by omega)
  obtain ⟨mb, mo, ps⟩ := p
  have eps : ps = none := M6.2.1
  subst eps
  have mF : h2.size ≤ mb ∧ mb < h6.size := M6.2.2.1
  have mcap := M6.le
  refine ⟨⟨by omega, by omega⟩, ?_⟩
  refine copy_bytes (StrAt.fr F6 B fun _ _ x => x) hl47 fun wa wc h8 f8 hs8 w8 => New.intro fun h9 n9 => ?_
  have hs9 := n9.size
  have F9 : Fr No h h9 := (F6.no f8).new n9
  have f69 : Fr No h6 h9 := f8.new n9
  -- the colours
  obtain ⟨col, cm, cb, cw, c0⟩ : ∃ col : Nat → Nat, col mb = 1 ∧ col h8.size = 3 ∧ (∀ b, h6.size ≤ b → b < h8.size → col b = 2) ∧ ∀ b, b < h2.size → col b = 0 :=
    ⟨fun b => if b = mb then 1 else if b = h8.size then 3 else if h6.size ≤ b ∧ b < h8.size then 2 else 0,
      by show (if mb = mb then _ else _) = _; rw [if_pos rfl],
      by show (if h8.size = mb then _ else if h8.size = h8.size then _ else _) = _; rw [if_neg (by omega), if_pos rfl],
      fun b x y => by show (if b = mb then _ else if b = h8.size then _ else if h6.size ≤ b ∧ b < h8.size then _ else _) = _; rw [if_neg (by omega), if_neg (by omega), if_pos ⟨x, y⟩],
      fun b x => by show (if b = mb then _ else if b = h8.size then _ else if h6.size ≤ b ∧ b < h8.size then _ else _) = _; rw [if_neg (by omega), if_neg (by omega), if_neg (by omega)]⟩
  have q9 : Pl h h9 col mb mo l c2 wa wc h8.size (fun _ => (none, 0, 0)) [] bs bs := by
    refine ⟨F9, fun b hb => c0 b (by omega), hbl, hbl, ?_, ?_, ⟨n9.own, cb, n9.rd, fun k hk => rfl, fun k hk => Sl.nil _ _ _⟩, fun i hi => absurd hi (Nat.not_lt_zero _)⟩
    · obtain ⟨x0, x1, x2, x3⟩ := M6.fr f69 fun _ _ _ x => x
      exact ⟨x0, x1, cm, x3⟩
    · exact (w8.fr n9.fr fun _ _ _ x => x).mono fun b hb => cw b hb.1 hb.2
  refine ⟨fun i hh => 0 ≤ i ∧ i ≤ sl ∧ ∃ col ar recs bb, recs.length ≤ i.toNat ∧ Pl h hh col mb mo l c2 wa wc h8.size ar recs bb bb, fun i _ => ((sl : Int) - i).toNat,
    ⟨by omega, by omega, col, _, [], bs, Nat.zero_le _, q9⟩, ?_⟩
  rintro i h10 ⟨i0, i1, col, ar, recs, bb, hrl, q⟩
  refine cd (fun hi => ?_) fun hi => ?_
  · have hi' : i.toNat < ops.length := by omega
    obtain ⟨p, rfl, cc⟩ := part_at (SlCells.fr q.fr S fun _ _ x => x) OpR.len (by omega) hi'
    refine ⟨⟨i0, hi⟩, os ⟨_, rfl, cc, NewRow.intro rfl (OpR.one _) rfl fun h12 n12 => ?_⟩⟩
    generalize ops[i.toNat] = o at n12
    have hs12 := n12.size
    have r12 : rd h12 h10.size = OpR.v o := n12.rd
    have q12 := q.quiet n12.fr
    have hc12 : ∀ b, h10.size ≤ b → upd col h10.size 0 b = 0 := fun b hb => upd_ge hb
    generalize upd col h10.size 0 = col at q12 hc12
    have G12 := g.no q12.fr
    have hmb1 : 1 ≤ mb := by omega
    have bbl := q12.lenm
    -- the end of a step
    have fin : ∀ h' col' ar' recs' b', Pl h h' col' mb mo l c2 wa wc h8.size ar' recs' b' b' → recs'.length ≤ recs.length + 1 →
        C.bolelaw14_sameBytes (some ⟨mb, mo, none⟩) l c2 wa l wc h' fun r4 h15 => ∃ (b3 : Bool), r4 = .bool b3 ∧ bif (!b3) then K (.bool false) h15 else
          ((0 ≤ IntKind.wrap .i64 (i + 1) ∧ IntKind.wrap .i64 (i + 1) ≤ sl ∧ ∃ col ar recs bb, recs.length ≤ (IntKind.wrap .i64 (i + 1)).toNat ∧ Pl h h15 col mb mo l c2 wa wc h8.size ar recs bb bb) ∧ ((sl : Int) - IntKind.wrap .i64 (i + 1)).toNat < ((sl : Int) - i).toNat) := by
      intro h' col' ar' recs' b' q' hr
      refine sameBytes_spec q'.mine.str q'.want.str (by omega) ⟨_, rfl, ?_⟩
      rw [decide_eq_true rfl, wrap_i64 (n := i + 1) (by omega) (by omega)]
      exact cf rfl ⟨⟨by omega, by omega, col', ar', recs', b', by omega, q'⟩, falls hi⟩
    refine ⟨o.kind, rda r12 rfl, ce (fun _ => ?_) fun _ => ce (fun _ => ?_) fun _ => ce (fun _ => ?_) fun _ => ce (fun _ => ?_) fun _ => ce (fun _ => ?_) fun _ => fin _ _ _ _ _ q12 (by omega)⟩
    · -- Read
      refine refRead_spec q12.want.str q12.want.le fun h13 ea el ec f13 e13 => ⟨_, _, _, _, rfl, ?_⟩
      have q13 := q12.quiet f13
      have hc13 : ∀ b, h12.size ≤ b → upd col h12.size 0 b = 0 := fun b hb => upd_ge hb
      generalize upd col h12.size 0 = col13 at q13 hc13
      have ell : (ans bb).1.length = el := by have := e13.1; rw [flat_length E.v 3 _ (fun x _ => E.len x)] at this; omega
      have hlow := q13.low
      refine Book_read_spec (n := recs.length) (g.no q13.fr) q13.bk (fun k hk => by rw [lists, List.length_map]) (by omega) q13.mine.str q13.mine.le (Fz.of e13 fun b _ hF => hc13 b hF) ell (fun b hb => hlow b (by omega)) fun h14 col14 ar14 r f14 ag14 bk14 rc14 => ⟨_, rfl, cf rfl ?_⟩
      refine fin h14 col14 ar14 (recs ++ [r]) bb ?_ (by rw [List.length_append]; exact Nat.le_refl _)
      have hs13 := q13.fr.size
      refine ⟨q13.fr.trans f14 fun b hb hF => by have := hlow b hb; omega, fun b hb => (ag14 b (by omega)).trans (hlow b hb), q13.lenm, q13.lenw, Sl.keep' q13.full f14 ag14 fun b _ h1 h2 => by omega, Sl.keep' q13.want f14 ag14 fun b _ h1 h2 => by omega,
        bk14.congr fun k hk => by simp only [if_pos hk, lists, List.map_append, List.map_cons, List.map_nil], fun j hj => ?_⟩
      rw [List.length_append, List.length_singleton] at hj
      by_cases e : j < recs.length
      · rw [List.getElem_append_left e]
        exact (q13.rc j e).keep f14 ag14 fun b _ h1 h2 => by omega
      · have : j = recs.length := by omega
        subst this
        rw [List.getElem_append_right (Nat.le_refl _)]
        simp only [Nat.sub_self, List.getElem_singleton]
        exact rc14
    · -- Put
      refine ⟨E.v o.e, rfl, ?_, refPut_any q12.want fun h16 f16 w16 => ⟨_, rfl, E.v o.e, rfl, ?_, ?_⟩⟩
      · exact cellsa r12 rfl
      · have nb : ¬ On col 2 h10.size := fun x => by have x : col h10.size = 2 := x; rw [hc12 _ (Nat.le_refl _)] at x; omega
        exact cellsa ((f16.rd (by omega) nb).trans r12) rfl
      · have q16 := q12.onWant f16 w16 ((putA_length bb o.e).trans bbl)
        refine Put_spec (g.no q16.fr) hmb1 q16.mine fun h17 d17 => ⟨_, rfl, cnot (ct (beq_self_eq_true _) ?_)⟩
        exact fin _ _ _ _ _ (q16.onMine d17 ((putA_length bb o.e).trans bbl)) (by omega)
    · -- Clear
      have c1' : cellOf h12 (Addr.add (Addr.add ⟨h10.size, 0, none⟩ 1) 0) = some (.int .i64 o.e.place) := by rw [Addr.add_zero]; exact rda r12 rfl
      refine ⟨o.e.place, c1', refClear_any q12.want fun h19 f19 w19 => ⟨_, rfl, o.e.place, ?_, ?_⟩⟩
      · have nb : ¬ On col 2 h10.size := fun x => by have x : col h10.size = 2 := x; rw [hc12 _ (Nat.le_refl _)] at x; omega
        rw [Addr.add_zero]
        exact rda ((f19.rd (by omega) nb).trans r12) rfl
      · have q19 := q12.onWant f19 w19 ((clrA_length bb o.e.place).trans bbl)
        refine Clear_spec q19.mine fun h20 d20 => ⟨_, rfl, cnot (ct (beq_self_eq_true _) ?_)⟩
        exact fin _ _ _ _ _ (q19.onMine d20 ((clrA_length bb o.e.place).trans bbl)) (by omega)
    · -- Lowest
      refine refLowest_spec q12.want.str q12.want.le fun h22 f22 => ⟨_, _, rfl, ?_⟩
      have q22 := q12.quiet f22
      refine Lowest_spec (g.no q22.fr) q22.mine.str q22.mine.le fun h23 f23 => ⟨_, _, rfl, ct (beq_self_eq_true _) (cnot (ct (beq_self_eq_true _) ?_))⟩
      exact fin _ _ _ _ _ (q22.quiet f23) (by omega)
    · -- a byte is written
      have cat : ∀ {hq : Heap}, rd hq h10.size = OpR.v o → cellOf hq (Addr.add ⟨h10.size, 0, none⟩ 4) = some (.int .i64 o.at_) := fun r => rda r rfl
      have cby : ∀ {hq : Heap}, rd hq h10.size = OpR.v o → cellOf hq (Addr.add ⟨h10.size, 0, none⟩ 5) = some (bv o.by_) := fun r => rda r rfl
      refine ⟨_, cat r12, cd (fun x0 => ⟨_, cat r12, cd (fun x1 => ?_) fun _ => fin _ _ _ _ _ q12 (by omega)⟩) fun _ => fin _ _ _ _ _ q12 (by omega)⟩
      have bwl := q12.lenw
      have m12 := q12.mine
      obtain ⟨w12, wl12⟩ := m12.wr
      refine ⟨_, cat r12, _, cby r12, ⟨x0, x1⟩, os (Put.add w12 (by omega) fun h25 d25 => ?_)⟩
      have e1 : (rd h12 mb).set (mo + o.at_.toNat) (bv o.by_) = put (rd h12 mb) mo ((putU bb o.at_.toNat [o.by_]).map bv) := put_sub (ys := [o.by_]) m12 (by rw [List.length_singleton]; omega)
      have pl : (putU bb o.at_.toNat [o.by_]).length = l := (putU_length (by rw [List.length_singleton]; omega)).trans bbl
      have q25 := q12.onMine (bm' := putU bb o.at_.toNat [o.by_]) ⟨d25.fr, d25.own, d25.rd.trans e1⟩ pl
      have cmb : col mb = 1 := q12.full.2.2.1
      have hne : h10.size ≠ mb := fun e => by rw [← e, hc12 _ (Nat.le_refl _)] at cmb; omega
      have r25 : rd h25 h10.size = OpR.v o := (d25.at_ (by omega) hne).trans r12
      have hs25 := d25.size
      have hc25 : ∀ b, h10.size ≤ b → upd col h12.size 0 b = 0 := fun b hb => by
        unfold upd
        split
        · exact hc12 b hb
        · rfl
      generalize upd col h12.size 0 = col25 at q25 hc25
      have w25 := q25.want
      obtain ⟨pw, rfl, _⟩ := w25.get (by omega)
      obtain ⟨wb, wo, ws⟩ := pw
      have ews : ws = none := w25.2.1
      subst ews
      obtain ⟨ww, wwl⟩ := w25.wr
      refine ⟨_, cat r25, _, cby r25, ⟨x0, x1⟩, os (Put.add ww (by omega) fun h26 d26 => ?_)⟩
      have e2 : (rd h25 wb).set (wo + o.at_.toNat) (bv o.by_) = put (rd h25 wb) wo ((putU bb o.at_.toNat [o.by_]).map bv) := put_sub (ys := [o.by_]) w25 (by rw [List.length_singleton]; omega)
      have cwb : col25 wb = 2 := w25.2.2.1
      have s26 := Sl.all (bs' := putU bb o.at_.toNat [o.by_]) w25 (by omega) ⟨d26.fr, d26.own, d26.rd.trans e2⟩
      exact fin _ _ _ _ _ (q25.onWant (d26.fr.mono fun b _ e => by rw [e]; exact cwb) s26 pl) (by omega)
  · -- all bytes are written over, and what was told is asked
    refine ⟨fun k hh => 0 ≤ k ∧ k ≤ l ∧ ∃ col bm, Pl h hh col mb mo l c2 wa wc h8.size ar recs bm bb, fun k _ => ((l : Int) - k).toNat, ⟨by omega, by omega, col, bb, q⟩, ?_⟩
    rintro k h31 ⟨k0, k1, col, bm, q31⟩
    have bbl := q31.lenm
    refine cd (fun hk => ?_) fun hk => ?_
    · have m31 := q31.mine
      obtain ⟨w31, wl31⟩ := m31.wr
      refine ⟨⟨k0, hk⟩, os (Put.add w31 (by omega) fun h32 d32 => ?_)⟩
      have e1 : (rd h31 mb).set (mo + k.toNat) (.int .u8 7) = put (rd h31 mb) mo ((putU bm k.toNat [7]).map bv) := put_sub (ys := [7]) m31 (by rw [List.length_singleton]; omega)
      have pl : (putU bm k.toNat [7]).length = l := (putU_length (by rw [List.length_singleton]; omega)).trans bbl
      rw [wrap_i64 (n := k + 1) (by omega) (by omega)]
      exact ⟨⟨by omega, by omega, _, _, q31.onMine (bm' := putU bm k.toNat [7]) ⟨d32.fr, d32.own, d32.rd.trans e1⟩ pl⟩, falls hk⟩
    · refine Book_whole_spec q31.bk q31.rc (by omega) fun h33 f33 => ⟨_, rfl, ct rfl ?_⟩
      have q33 := q31.quiet f33
      have fu := q33.full.str
      have get : ∀ j : Nat, (hj : j < 3) → cellOf h33 (Addr.add ⟨mb, mo, none⟩ (l + j)) = some (bv (tail3[j]'hj)) := by
        intro j hj
        have hlj : l + j < (bm ++ tail3).length := by rw [List.length_append]; show l + j < bm.length + 3; omega
        obtain ⟨_, e, c⟩ := byte_get fu hlj
        cases e
        rw [List.getElem_append_right (by omega)] at c
        simp only [bbl, Nat.add_sub_cancel_left] at c
        exact c
      rw [wrap_i64 (n := (l : Int) + 1) (by omega) (by omega), wrap_i64 (n := (l : Int) + 2) (by omega) (by omega), show ((l : Int) + 1).toNat = l + 1 by omega, show ((l : Int) + 2).toNat = l + 2 by omega]
      refine ⟨⟨by omega, by omega⟩, os ⟨77, get 0 (by omega), ct rfl ⟨⟨by omega, by omega⟩, os ⟨78, get 1 (by omega), ct rfl ⟨⟨by omega, by omega⟩, os ⟨79, get 2 (by omega), ?_⟩⟩⟩⟩⟩⟩
      exact hK h33 q33.fr
end Go.Proofs.YtgpkcakanieodaaDoor.Ss
