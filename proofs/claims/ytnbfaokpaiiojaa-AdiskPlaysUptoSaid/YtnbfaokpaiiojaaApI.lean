/-
  bolelaw03.AdiskPlays: the calls that answer lists.
-/
import Derived.Test.YtnbfaokpaiiojaaApH
namespace Go.Proofs.Ytnbfaokpaiiojaa.Ap
open Go Go.Proofs Go.Proofs.Ytnbfaokpaiiojaa.Wx Go.Proofs.Ytnbfaokpaiiojaa.Hp Go.Proofs.Ytnbfaokpaiiojaa.W Go.Proofs.Ytnbfaokpaiiojaa.Ad Go.Proofs.Ytnbfaokpaiiojaa.L3 Go.Proofs.Ytnbfaokpaiiojaa.Rf

theorem intsV_get {h : Heap} {a : Option Addr} {ns : List Int} (A : SlCells h a (intsV ns)) {i : Nat} (hi : i < ns.length) : ∃ p, a = some p ∧ cellOf h (p.add i) = some (.int .i64 ns[i]) := by
  cases a with
  | none => have A : intsV ns = [] := A; have := List.map_eq_nil_iff.mp A; rw [this] at hi; exact absurd hi (by simp)
  | some p => exact ⟨p, rfl, A i _ (by unfold intsV; rw [List.getElem?_map, List.getElem?_eq_getElem hi]; rfl)⟩
theorem sameInts_spec {a b : Option Addr} {l l2 c e : Nat} {ns : List Int} {h : Heap} {K : Value → Heap → Prop} (A : SlCells h a (intsV ns)) (B : SlCells h b (intsV ns)) (hl1 : ns.length = l) (hl2 : ns.length = l2) (hl : l ≤ 1000000000000) (hK : K (.bool true) h) : C.bolelaw03_sameInts a l c b l2 e h K := by
  refine bolelaw03_sameInts.ok (cn (fun y => absurd (show (l : Int) = l2 by omega) y) fun _ => ?_)
  refine ⟨fun i hh => ∃ j : Nat, i = j ∧ j ≤ l ∧ hh = h, fun i _ => ((l : Int) - i).toNat, ⟨0, rfl, Nat.zero_le _, rfl⟩, ?_⟩
  rintro i _ ⟨j, ei, hj, rfl⟩
  refine cd (fun hlt => ?_) fun _ => hK
  have hj' : j < ns.length := by omega
  have ein : i.toNat = j := by omega
  obtain ⟨p, rfl, cp⟩ := intsV_get A hj'
  obtain ⟨q, rfl, cq⟩ := intsV_get B hj'
  rw [ein, wrap_i64 (n := i + 1) (by omega) (by omega)]
  exact ⟨⟨by omega, hlt⟩, os ⟨_, cp, ⟨by omega, by omega⟩, os ⟨_, cq, cn (fun y => absurd rfl y) fun _ => ⟨⟨j + 1, by omega, by omega, rfl⟩, by show ((l : Int) - (i + 1)).toNat < ((l : Int) - i).toNat; omega⟩⟩⟩⟩
theorem Ts.rot {h : Heap} {b l c : Nat} {col : Nat → Nat} {a : Option Addr} {xs : List Ent} {ts : List Tt} (t : Ts h b col a l c xs ts) : Rot h a l xs ts :=
  ⟨t.sl.cells, t.num, t.len, fun i h1 h2 => ⟨(t.it i h1 h2).1, (t.it i h1 h2).2.1, (t.it i h1 h2).2.2.str⟩⟩
/-- the colours of a tape, among all -/
def glob (b : Nat) (col loc : Nat → Nat) (n m : Nat) : Nat → Nat := fun x => if x < b then col x else if loc x = 0 then 0 else if loc x = 1 then 43 + 5 * m else 40 + 5 * (n + (loc x - 2))
theorem glob_ag (b : Nat) (col loc : Nat → Nat) (n m : Nat) : Ag b col (glob b col loc n m) := fun x hx => if_pos hx
theorem Ts.glob {h : Heap} {b l c : Nat} {loc : Nat → Nat} {a : Option Addr} {xs : List Ent} {ts : List Tt} (t : Ts h b loc a l c xs ts) (col : Nat → Nat) (n m : Nat) :
    Sl h 3 a l c (xs.flatMap Ent.cells) (On (glob b col loc n m) (43 + 5 * m)) ∧ ∀ i (h1 : i < xs.length) (h2 : i < ts.length), Sl h 1 xs[i].a xs[i].l xs[i].c (ts[i].2.2.map bv) (On (Ap.glob b col loc n m) (40 + 5 * (n + i))) := by
  have ge : ∀ x k, loc x = k → k ≠ 0 → ¬ x < b := fun x k e hk y => hk (e.symm.trans (t.base x y))
  refine ⟨t.sl.mono fun x hx => ?_, fun i h1 h2 => (t.it i h1 h2).2.2.mono fun x hx => ?_⟩
  · have hx : loc x = 1 := hx
    show Ap.glob b col loc n m x = _
    unfold Ap.glob
    rw [if_neg (ge x 1 hx (by decide)), if_neg (by omega), if_pos hx]
  · have hx : loc x = 2 + i := hx
    show Ap.glob b col loc n m x = _
    unfold Ap.glob
    rw [if_neg (ge x _ hx (by omega)), if_neg (by omega), if_neg (by omega), hx, Nat.add_sub_cancel_left]
section
variable {h : Heap} {col : Nat → Nat} {m c kb cb : Nat} {d r : Option Addr} {D : RD} {S : FD} {xs : List Hb} {is : List Li} {ats : List La}
theorem looks_spec {kind n : Int} {two : Bool} {ba ka : Option Addr} {bl bc kl kc : Nat} {K : Value → Heap → Prop} (P : Pr h col m d r D S c) (B : Bk h col kb xs is ats cb) (hm : m ≤ 18) (hc : c < 1000000) (hcb : cb + 2 * c + 2 < 1000000000000)
    (hK : ∀ h' col' xs' is' ats', Fr (fun b => 30 ≤ col b) h h' → Ag h.size col col' → Pr h' col' m d r D S c → Bk h' col' kb xs' is' ats' (cb + 2 * c + 2) → K (.bool true) h') :
    C.bolelaw03_Pair_looks (prV d r) (opV kind two n ba bl bc ka kl kc) (some ⟨kb, 0, none⟩) h K := by
  refine bolelaw03_Pair_looks.ok (New.intro fun h2 n2 => New.intro fun h3 n3 => ?_)
  have z2 := n2.size
  have z3 := n3.size
  have F3 : Fr No h h3 := n2.fr.new n3
  have g3 : Ag h.size col (upd col h.size 0) := ag_upd _ _ _
  have rp3 : rd h3 h.size = prV d r := (n3.at_ (by omega)).trans n2.rd
  have ro3 : rd h3 h2.size = opV kind two n ba bl bc ka kl kc := n3.rd
  have P3 := P.no F3 g3
  have B3 := B.no F3 g3
  have hpp := P.pend
  have htp := P.tape
  have keepP : ∀ {h6 h7 : Heap} {col6 col7 : Nat → Nat}, Pr h6 col6 m d r D S c → Fr (fun b => 30 ≤ col6 b) h6 h7 → Ag h6.size col6 col7 → Pr h7 col7 m d r D S c := fun P f g => P.keep f g fun b h1 h2 y => by have y : 30 ≤ _ := y; omega
  have fin : ∀ {h6 : Heap} {col6 : Nat → Nat}, Fr No h h6 → Ag h.size col col6 → Pr h6 col6 m d r D S c → ∀ h' col' xs' is' ats' c', Fr (fun b => 30 ≤ col6 b) h6 h' → Ag h6.size col6 col' → Bk h' col' kb xs' is' ats' c' → c' ≤ cb + 2 * c + 2 → K (.bool true) h' := fun F6 g6 P6 h' col' xs' is' ats' c' f g B' hc' =>
    hK h' col' xs' is' ats' ((F6.mono fun _ _ y => y.elim).trans f fun b hb y => by have y : 30 ≤ _ := y; rw [g6 b hb] at y; exact y) (g6.trans g F6.size) (keepP P6 f g) (B'.le hc')
  refine ⟨_, rda ro3 rfl, ce (fun _ => ?_) fun _ => ce (fun _ => ?_) fun _ => ce (fun _ => ?_) fun _ => ce (fun _ => ?_) fun _ => fin F3 g3 P3 h3 _ xs is ats cb (Fr.refl _ _) (Ag.refl _ _) B3 (by omega)⟩
  · -- Read
    have lr : (rdM D n).1.length ≤ 512 := by
      unfold rdM
      split
      · exact Nat.zero_le _
      · split
        · exact Nat.zero_le _
        · rename_i y1 y2
          have y1 : S.out = false := by rw [P.s.down] at y1; simpa using y1
          have y2 : 0 ≤ n ∧ n < D.lasts.length := Decidable.of_not_not y2
          have e := P.s.read y1 (i := n.toNat) (by rw [← P.s.len]; omega)
          show (readAt D n.toNat).length ≤ 512
          rw [e]
          have : ∀ (ts : List Tt) (z : List UInt8), z.length ≤ 512 → (∀ t ∈ ts, t.2.2.length ≤ 512) → (lastW ((n.toNat : Nat) : Int) z ts).length ≤ 512 := by
            intro ts
            induction ts with
            | nil => intro z hz _; exact hz
            | cons t r ih =>
              intro z hz ht
              show (lastW _ (if t.1 = 1 ∧ t.2.1 = _ then t.2.2 else z) r).length ≤ 512
              refine ih _ ?_ fun x hx => ht x (List.mem_cons_of_mem _ hx)
              split
              · exact ht t (List.mem_cons_self ..)
              · exact hz
          exact this S.acts _ (by unfold FD.first'; rw [List.length_take]; omega) P.w
    refine ⟨_, rda rp3 rfl, _, rda ro3 rfl, read_p P3.d fun a ca h4 f4 s4 => ⟨_, _, _, _, rfl, ?_⟩⟩
    have z4 := f4.size
    have rp4 := (f4.rd (by omega) fun y => y).trans rp3
    have ro4 := (f4.rd (by omega) fun y => y).trans ro3
    have g4 : Ag h3.size (upd col h.size 0) (upd (upd col h.size 0) h3.size (40 + 5 * xs.length)) := ag_upd _ _ _
    have P4 := P3.no f4 g4
    have B4 := B3.no f4 g4
    have sa4 := s4.mono (G := On (upd (upd col h.size 0) h3.size (40 + 5 * xs.length)) (40 + 5 * xs.length)) fun b hb => upd_ge hb
    generalize upd (upd col h.size 0) h3.size (40 + 5 * xs.length) = col4 at g4 P4 B4 sa4
    refine ⟨_, rda rp4 rfl, _, rda ro4 rfl, read_p P4.d fun a2 ca2 h5 f5 s5 => ⟨_, _, _, _, rfl, ?_⟩⟩
    have z5 := f5.size
    have rp5 := (f5.rd (by omega) fun y => y).trans rp4
    have ro5 := (f5.rd (by omega) fun y => y).trans ro4
    have g5 : Ag h4.size col4 (upd col4 h4.size (45 + 5 * xs.length)) := ag_upd _ _ _
    have P5 := P4.no f5 g5
    have B5 := B4.no f5 g5
    have sa5 := sa4.keep f5 g5 fun _ _ y => y
    have sb5 := s5.mono (G := On (upd col4 h4.size (45 + 5 * xs.length)) (45 + 5 * xs.length)) fun b hb => upd_ge hb
    have G5 : Ag h.size col (upd col4 h4.size (45 + 5 * xs.length)) := (g3.trans g4 F3.size).trans g5 (by omega)
    generalize upd col4 h4.size (45 + 5 * xs.length) = col5 at g5 P5 B5 sa5 sb5 G5
    refine ⟨_, rda rp5 rfl, _, rda ro5 rfl, read_q P5 fun a3 ca3 h6 f6 s6 => ⟨_, _, _, _, rfl, ?_⟩⟩
    have g6 : Ag h5.size col5 col5 := Ag.refl _ _
    have P6 := P5.no f6 g6
    have B6 := B5.no f6 g6
    have sa6 := sa5.keep f6 g6 fun _ _ y => y
    have sb6 := sb5.keep f6 g6 fun _ _ y => y
    refine ⟨_, sa6.str, _, s6.str, cnot (ct (beq_self_eq_true _) ⟨_, sb6.str, _, s6.str, cnot (ct (beq_self_eq_true _) (cn (fun y => absurd rfl y) fun _ => cn (fun y => absurd rfl y) fun _ => ?_))⟩)⟩
    exact two_bytes B6 (by omega) (by omega) (by omega) sa6 sb6 fun h' col' xs' f g B' => fin (((F3.no f4).no f5).no f6) G5 P6 h' col' xs' is ats _ f g B' (by omega)
  · -- Image
    have el := P.s.len
    have ei := P.s.image
    have mx := P.s.ok.max
    refine ⟨_, rda rp3 rfl, Ad.Image_spec P3.d fun a ca h4 f4 s4 => ⟨_, _, _, rfl, ?_⟩⟩
    have z4 := f4.size
    have rp4 := (f4.rd (by omega) fun y => y).trans rp3
    have g4 : Ag h3.size (upd col h.size 0) (upd (upd col h.size 0) h3.size (40 + 5 * xs.length)) := ag_upd _ _ _
    have P4 := P3.no f4 g4
    have B4 := B3.no f4 g4
    have sa4 := s4.mono (G := On (upd (upd col h.size 0) h3.size (40 + 5 * xs.length)) (40 + 5 * xs.length)) fun b hb => upd_ge hb
    generalize upd (upd col h.size 0) h3.size (40 + 5 * xs.length) = col4 at g4 P4 B4 sa4
    refine ⟨_, rda rp4 rfl, Ad.Image_spec P4.d fun a2 ca2 h5 f5 s5 => ⟨_, _, _, rfl, ?_⟩⟩
    have z5 := f5.size
    have rp5 := (f5.rd (by omega) fun y => y).trans rp4
    have g5 : Ag h4.size col4 (upd col4 h4.size (45 + 5 * xs.length)) := ag_upd _ _ _
    have P5 := P4.no f5 g5
    have B5 := B4.no f5 g5
    have sa5 := sa4.keep f5 g5 fun _ _ y => y
    have sb5 := s5.mono (G := On (upd col4 h4.size (45 + 5 * xs.length)) (45 + 5 * xs.length)) fun b hb => upd_ge hb
    have G5 : Ag h.size col (upd col4 h4.size (45 + 5 * xs.length)) := (g3.trans g4 F3.size).trans g5 (by omega)
    generalize upd col4 h4.size (45 + 5 * xs.length) = col5 at g5 P5 B5 sa5 sb5 G5
    refine ⟨_, rda rp5 rfl, Rf.Image_spec P5.r P.s.ok fun a3 ca3 h6 f6 s6 => ⟨_, _, _, rfl, ?_⟩⟩
    have g6 : Ag h5.size col5 col5 := Ag.refl _ _
    have P6 := P5.no f6 g6
    have B6 := B5.no f6 g6
    have sa6 := sa5.keep f6 g6 fun _ _ y => y
    have sb6 := sb5.keep f6 g6 fun _ _ y => y
    have e6 := s6.str
    rw [← ei] at e6
    refine ⟨_, e6, _, sa6.str, cnot (ct (beq_self_eq_true _) ⟨_, sb6.str, cnot (ct (beq_self_eq_true _) ?_)⟩)⟩
    exact two_bytes B6 (by omega) (by omega) (by omega) sa6 sb6 fun h' col' xs' f g B' => fin (((F3.no f4).no f5).no f6) G5 P6 h' col' xs' is ats _ f g B' (by omega)
  · -- Pending
    have ep := P.s.pending P.pos
    have en : numbers D.pend = intsV (D.pend.map (·.1)) := by unfold numbers intsV; rw [List.map_map]; rfl
    refine ⟨_, rda rp3 rfl, Ad.Pending_spec P3.d (by omega) fun a ca h4 f4 s4 => ⟨_, _, _, rfl, ?_⟩⟩
    rw [en] at s4
    have z4 := f4.size
    have rp4 := (f4.rd (by omega) fun y => y).trans rp3
    have g4 : Ag h3.size (upd col h.size 0) (upd (upd col h.size 0) h3.size (41 + 5 * is.length)) := ag_upd _ _ _
    have P4 := P3.no f4 g4
    have B4 := B3.no f4 g4
    have sa4 := s4.mono (G := On (upd (upd col h.size 0) h3.size (41 + 5 * is.length)) (41 + 5 * is.length)) fun b hb => upd_ge hb
    generalize upd (upd col h.size 0) h3.size (41 + 5 * is.length) = col4 at g4 P4 B4 sa4
    refine ⟨_, rda rp4 rfl, Ad.Pending_spec P4.d (by omega) fun a2 ca2 h5 f5 s5 => ⟨_, _, _, rfl, ?_⟩⟩
    rw [en] at s5
    have z5 := f5.size
    have rp5 := (f5.rd (by omega) fun y => y).trans rp4
    have g5 : Ag h4.size col4 (upd col4 h4.size (46 + 5 * is.length)) := ag_upd _ _ _
    have P5 := P4.no f5 g5
    have B5 := B4.no f5 g5
    have sa5 := sa4.keep f5 g5 fun _ _ y => y
    have sb5 := s5.mono (G := On (upd col4 h4.size (46 + 5 * is.length)) (46 + 5 * is.length)) fun b hb => upd_ge hb
    have G5 : Ag h.size col (upd col4 h4.size (46 + 5 * is.length)) := (g3.trans g4 F3.size).trans g5 (by omega)
    generalize upd col4 h4.size (46 + 5 * is.length) = col5 at g5 P5 B5 sa5 sb5 G5
    have hn2 := P.n
    refine ⟨_, rda rp5 rfl, Rf.Pending_spec P5.r (by omega) fun a3 ca3 h6 f6 s6 => ⟨_, _, _, rfl, ?_⟩⟩
    have g6 : Ag h5.size col5 col5 := Ag.refl _ _
    have P6 := P5.no f6 g6
    have B6 := B5.no f6 g6
    have sa6 := sa5.keep f6 g6 fun _ _ y => y
    have sb6 := sb5.keep f6 g6 fun _ _ y => y
    have c6 : SlCells h6 a3 (intsV (D.pend.map (·.1))) := by rw [ep]; exact s6.cells
    have lp : (D.pend.map (·.1)).length = D.pend.length := List.length_map ..
    have lp2 : (D.pend.map (·.1)).length = S.pending.length := congrArg List.length ep
    refine sameInts_spec sa6.cells c6 lp lp2 (by omega) ⟨_, rfl, cnot (ct rfl (sameInts_spec sb6.cells c6 lp lp2 (by omega) ⟨_, rfl, cnot (ct rfl ?_)⟩))⟩
    exact two_ints B6 (by omega) (by omega) (by omega) sa6 sb6 fun h' col' is' f g B' => fin (((F3.no f4).no f5).no f6) G5 P6 h' col' xs is' ats _ f g B' (by omega)
  · -- Tape
    have et := P.s.tape
    have wt : ∀ t ∈ D.tape, t.2.2.length ≤ 512 := fun t ht => P.w t (by rw [← et]; exact ht)
    have hl : (D.tape.drop n.toNat).length ≤ c := by rw [List.length_drop]; omega
    refine ⟨_, rda rp3 rfl, _, rda ro3 rfl, tape_spec P3.d (by omega) (fun t ht => Nat.le_trans (wt t ht) (by decide)) fun a l ca h4 loc4 es f4 T4 => ⟨_, _, _, rfl, ?_⟩⟩
    have z4 := f4.size
    have rp4 := (f4.rd (by omega) fun y => y).trans rp3
    have ro4 := (f4.rd (by omega) fun y => y).trans ro3
    have g4 := glob_ag h3.size (upd col h.size 0) loc4 xs.length ats.length
    have P4 := P3.no f4 g4
    have B4 := B3.no f4 g4
    obtain ⟨sa4, ia4⟩ := T4.glob (upd col h.size 0) xs.length ats.length
    have R4 := T4.rot
    generalize Ap.glob h3.size (upd col h.size 0) loc4 xs.length ats.length = col4 at g4 P4 B4 sa4 ia4
    refine ⟨_, rda rp4 rfl, _, rda ro4 rfl, tape_spec P4.d (by omega) (fun t ht => Nat.le_trans (wt t ht) (by decide)) fun a2 l2 ca2 h5 loc5 us f5 T5 => ⟨_, _, _, rfl, ?_⟩⟩
    have e1 := T4.num
    have e2 := T5.num
    have e3 := T4.len
    have e4 := T5.len
    obtain rfl : l2 = l := by omega
    have z5 := f5.size
    have rp5 := (f5.rd (by omega) fun y => y).trans rp4
    have ro5 := (f5.rd (by omega) fun y => y).trans ro4
    have g5 := glob_ag h4.size col4 loc5 (xs.length + l2) (ats.length + 1)
    have P5 := P4.no f5 g5
    have B5 := B4.no f5 g5
    have sa5 := sa4.keep f5 g5 fun _ _ y => y
    have ia5 := fun i h1 h2 => (ia4 i h1 h2).keep f5 g5 fun _ _ y => y
    obtain ⟨sb5, ib5⟩ := T5.glob col4 (xs.length + l2) (ats.length + 1)
    have R5 := T5.rot
    have G5 : Ag h.size col (Ap.glob h4.size col4 loc5 (xs.length + l2) (ats.length + 1)) := (g3.trans g4 F3.size).trans g5 (by omega)
    generalize Ap.glob h4.size col4 loc5 (xs.length + l2) (ats.length + 1) = col5 at g5 P5 B5 sa5 ia5 sb5 ib5 G5
    have hn2 := P.n
    refine ⟨_, rda rp5 rfl, _, rda ro5 rfl, Rf.Tape_spec P5.r (by omega) (fun t ht => Nat.le_trans (P.w t ht) (by decide)) fun a3 l3 ca3 h6 loc6 ws f6 T6 => ⟨_, _, _, rfl, ?_⟩⟩
    have g6 : Ag h5.size col5 col5 := Ag.refl _ _
    have P6 := P5.no f6 g6
    have B6 := B5.no f6 g6
    have sa6 := sa5.keep f6 g6 fun _ _ y => y
    have sb6 := sb5.keep f6 g6 fun _ _ y => y
    have R6 := L3.Tp.rot T6
    rw [← et] at R6
    refine sameActs_spec ((R4.fr f5).fr f6) R6 (by omega) ⟨_, rfl, cnot (ct rfl (sameActs_spec (R5.fr f6) R6 (by omega) ⟨_, rfl, cnot (ct rfl ?_)⟩))⟩
    have bnd : ∀ (x : Ent) (bs : List UInt8) (k : Nat) (cc : Nat → Nat), Sl h6 1 x.a x.l x.c (bs.map bv) (On cc k) → bs.length ≤ 512 → x.l ≤ 140737488355000 := fun x bs k cc s hb => by
      have := s.1
      rw [List.length_map] at this; omega
    have wd : ∀ i (h2 : i < (D.tape.drop n.toNat).length), ((D.tape.drop n.toNat)[i]).2.2.length ≤ 512 := fun i h2 => wt _ (List.mem_of_mem_drop (List.getElem_mem h2))
    refine two_acts (es := es) (us := us) (ts := D.tape.drop n.toNat) B6 (by omega) (by omega) (by omega) e1 sa6 (by rw [show 48 + 5 * ats.length = 43 + 5 * (ats.length + 1) by omega]; exact sb6) (fun i h1 h2 => ?_) (fun i h1 h2 => ?_) fun h' col' xs' ats' f g B' => fin (((F3.no f4).no f5).no f6) G5 P6 h' col' xs' is ats' _ f g B' (by omega)
    · have := (ia5 i h1 h2).keep f6 g6 fun _ _ y => y
      exact ⟨bnd _ _ _ _ this (wd i h2), this⟩
    · have := (ib5 i h1 h2).keep f6 g6 fun _ _ y => y
      exact ⟨bnd _ _ _ _ this (wd i h2), this⟩
end
end Go.Proofs.Ytnbfaokpaiiojaa.Ap
