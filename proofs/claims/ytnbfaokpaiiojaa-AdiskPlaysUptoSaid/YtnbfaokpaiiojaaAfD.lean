/-
  LAW AdiskAfters, the whole.
-/
import Derived.Test.YtnbfaokpaiiojaaAfC
namespace Go.Proofs.Ytnbfaokpaiiojaa.L3
open Go Go.Proofs Go.Proofs.Ytnbfaokpaiiojaa.Wx Go.Proofs.Ytnbfaokpaiiojaa.Hp Go.Proofs.Ytnbfaokpaiiojaa.W Go.Proofs.Ytnbfaokpaiiojaa.Ad

/-- what is handed in, copied: the image, the acts, what is kept -/
structure Lot (h1 h : Heap) (col : Nat → Nat) (xa : Option Addr) (il xc : Nat) (ib : List UInt8) (ma : Option Addr) (al mc : Nat) (es : List Ent) (fa : Option Addr) (fc : Nat) (ys : List (List UInt8)) (na : Option Addr) (kl nc : Nat) (kb : List Bool) : Prop where
  fr : Fr No h1 h
  base : ∀ b, b < h1.size → col b = 0
  x : Sl h 1 xa (il + 1) xc (ib.map bv) (On col 2)
  row : Sl h 3 ma (al + 1) mc (es.flatMap Ent.cells ++ Ent.cells ⟨-99, 0, none, 0, 0⟩) (On col 3)
  all : Sl h 1 fa es.length fc (es.map full) (On col 5)
  own : Own_ h col es ys
  m : Sl h 1 na (kl + 1) nc (kb.map .bool) (On col 6)
  num : es.length = al

section
variable {h1 h : Heap} {col : Nat → Nat} {xa ma fa na : Option Addr} {il xc al mc fc kl nc : Nat} {ib : List UInt8} {es : List Ent} {ys : List (List UInt8)} {kb : List Bool} {K : Value → Heap → Prop}

theorem Lot.keep (t : Lot h1 h col xa il xc ib ma al mc es fa fc ys na kl nc kb) {h' : Heap} {col' : Nat → Nat} {F : Nat → Prop} (f : Fr F h h') (g : Ag h.size col col') (hF : ∀ b, F b → 7 ≤ col b ∧ col b < 100) :
    Lot h1 h' col' xa il xc ib ma al mc es fa fc ys na kl nc kb :=
  ⟨t.fr.trans f fun b hb y => by have := t.base b hb; have := hF b y; omega, fun b hb => (g b (Nat.lt_of_lt_of_le hb t.fr.size)).trans (t.base b hb),
   t.x.keep f g fun b hb y => by have := hF b y; omega, t.row.keep f g fun b hb y => by have := hF b y; omega, t.all.keep f g fun b hb y => by have := hF b y; omega,
   t.own.keep f g fun b hb y => by have := hF b y; omega, t.m.keep f g fun b hb y => by have := hF b y; omega, t.num⟩
theorem Lot.cells (t : Lot h1 h col xa il xc ib ma al mc es fa fc ys na kl nc kb) : SlCells h ma (es.flatMap Ent.cells) := by
  obtain ⟨p, rfl, c⟩ := t.row.get (by omega)
  have := Cells.take c (es.flatMap Ent.cells).length
  rw [List.take_left] at this
  exact this
theorem Lot.ent (t : Lot h1 h col xa il xc ib ma al mc es fa fc ys na kl nc kb) {h' : Heap} {i : Nat} {y : List UInt8} (f : Fr (On col (100 + i)) h h') (hi : i < es.length)
    (s : Sl h' 1 es[i].a (es[i].l + 1) es[i].c (y.map bv) (On col (100 + i))) : Lot h1 h' col xa il xc ib ma al mc es fa fc (ys.set i y) na kl nc kb :=
  ⟨t.fr.trans f fun b hb y => by have := t.base b hb; have y : col b = 100 + i := y; omega, t.base,
   t.x.keep f (Ag.refl _ _) fun b hb y => by have y : col b = 100 + i := y; omega, t.row.keep f (Ag.refl _ _) fun b hb y => by have y : col b = 100 + i := y; omega, t.all.keep f (Ag.refl _ _) fun b hb y => by have y : col b = 100 + i := y; omega,
   ⟨by rw [List.length_set]; exact t.own.1, fun j g1 g2 => by
     by_cases e : i = j
     · subst e; rw [List.getElem_set_self]; exact s
     · rw [List.getElem_set_ne e]
       exact (t.own.2 j g1 (by rw [List.length_set] at g2; exact g2)).keep f (Ag.refl _ _) fun b hb y => by have y : col b = 100 + i := y; omega⟩,
   t.m.keep f (Ag.refl _ _) fun b hb y => by have y : col b = 100 + i := y; omega, t.num⟩
theorem Lot.rot (t : Lot h1 h col xa il xc ib ma al mc es fa fc ys na kl nc kb) : Rot h ma al es ((es.zip ys).map fun x => (x.1.kind, x.1.at_, x.2.take x.1.l)) := by
  have hl := t.own.1
  have hn := t.num
  refine ⟨t.cells, by rw [List.length_map, List.length_zip]; omega, by rw [List.length_map, List.length_zip]; omega, fun i g1 g2 => ?_⟩
  rw [List.getElem_map, List.getElem_zip]
  have g3 : i < ys.length := by omega
  exact ⟨rfl, rfl, StrAt.take (t.own.2 i g1 g3).str (Nat.le_succ _)⟩
theorem afters3 (t : Lot h1 h col xa il xc ib ma al mc es fa fc ys na kl nc kb) (hil : il ≤ 100000000) (hal : al ≤ 10000000) (hK : ∀ h', Fr No h1 h' → K (.bool true) h') : bolelaw03_AdiskAfters.k3 xa il xc ma al mc na kl nc h K := by
  have hx := StrAt.take t.x.str (n := il) (Nat.le_succ _)
  have hxc := t.x.le
  have hkl := t.m.1
  rw [List.length_map, Nat.mul_one] at hkl
  have km : SlCells h na ((kb.take kl).map .bool) := by
    obtain ⟨p, e, c⟩ := t.m.get (by omega)
    subst e
    have := Cells.take c kl
    rw [← List.map_take] at this
    exact this
  refine After_all hx (by omega) (by omega) t.rot (by omega) km (by rw [List.length_take]; omega) fun a l c h2 f2 s2 => ⟨_, _, _, _, rfl, ?_⟩
  have t2 := t.keep f2 (Ag.refl _ _) fun _ x => x.elim
  refine RefAfter_all (StrAt.fr f2 hx fun _ _ x => x) (by omega) (t.rot.fr f2) (by omega) (SlCells.fr f2 km fun _ _ x => x) (by rw [List.length_take]; omega) fun a' l' c' h3 f3 s3 => ⟨_, _, _, _, rfl, _, (s2.fr f3 fun _ _ _ x => x).str, _, s3.str, ct (beq_self_eq_true _) ?_⟩
  rw [beq_self_eq_true]
  exact hK h3 (t2.fr.no f3)
theorem afters2 {ia aa ka : Option Addr} {ic kc : Nat} {ibs : List UInt8} {es0 : List Ent} {ts : List Tt} {keep : List Bool}
    (t : Lot h1 h col xa il xc (ibs ++ [165]) ma al mc es fa fc (ts.map fun t => t.2.2 ++ [165]) na kl nc (keep ++ [true])) (hA : Alike es ts) (hil : il ≤ 100000000) (hal : al ≤ 10000000) (hkm : kl ≤ 100000000)
    (B : StrAt h1 ia il ibs) (R : Rot h1 aa al es0 ts) (hbl : ∀ t ∈ ts, t.2.2.length < 100000000) (Kp : SlCells h1 ka (keep.map .bool)) (hkl : keep.length = kl)
    (hK : ∀ h', Fr No h1 h' → K (.bool true) h') : bolelaw03_AdiskAfters.k2 ia il ic aa al ka kl kc xa il xc xa (il + 1) xc ma al mc fa al na kl nc na (kl + 1) nc h K := by
  have hn := R.num
  have hlen := hA.len
  refine ⟨fun n hh => 0 ≤ n ∧ n ≤ al ∧ ∃ ys, Lot h1 hh col xa il xc (ibs ++ [165]) ma al mc es fa fc ys na kl nc (keep ++ [true]) ∧ ∀ j : Nat, n ≤ j → j < al → ys[j]? = some ((ts.getD j (0, 0, [])).2.2 ++ [165]), fun n _ => ((al : Int) - n).toNat,
    ⟨by omega, by omega, _, t, fun j _ hj => by rw [List.getElem?_map, List.getD_eq_getElem?_getD, List.getElem?_eq_getElem (show j < ts.length by omega)]; rfl⟩, ?_⟩
  rintro n h2 ⟨n0, n1, ys, t2, hys⟩
  refine cd (fun hi => ?_) fun hi => ?_
  · obtain ⟨p0, e0, rfl, c0, x1, x2, x3, hit, _⟩ := (R.fr t2.fr).cell (i := n.toNat) (by omega)
    have ek : (ts.getD n.toNat (0, 0, [])) = ts[n.toNat] := by rw [List.getD_eq_getElem?_getD, List.getElem?_eq_getElem hit]; rfl
    rw [ek] at x1 x2 x3
    have hie : n.toNat < es.length := by omega
    obtain ⟨y1, y2, y3⟩ := hA.at_ n.toNat hie hit
    obtain ⟨p, rfl, c⟩ := row_part t2.cells hie
    have hyl := t2.own.1
    have hiy : n.toNat < ys.length := by omega
    have hcont := hys n.toNat (by omega) (by omega)
    rw [ek, List.getElem?_eq_getElem hiy] at hcont
    have hcont := Option.some.inj hcont
    have s := t2.own.2 n.toNat hie hiy
    rw [hcont] at s
    have hbl' := hbl _ (List.getElem_mem hit)
    have hel := x3.1
    obtain ⟨q, rfl, cq⟩ := t2.all.get (by omega)
    refine ⟨⟨n0, hi⟩, os ⟨_, Cells.cell c (i := 0) rfl, ⟨n0, hi⟩, os ⟨_, Cells.cell c0 (i := 0) rfl, cn (fun x => absurd (y1.trans x1.symm) x) fun _ => ?_⟩⟩⟩
    refine ⟨⟨n0, hi⟩, os ⟨_, Cells.cell c (i := 1) rfl, ⟨n0, hi⟩, os ⟨_, Cells.cell c0 (i := 1) rfl, cn (fun x => absurd (y2.trans x2.symm) x) fun _ => ?_⟩⟩⟩
    refine ⟨⟨n0, hi⟩, os ⟨_, _, _, cq n.toNat _ (by rw [List.getElem?_map, List.getElem?_eq_getElem hie]; rfl), ⟨n0, hi⟩, os ⟨_, _, _, Cells.cell c0 (i := 2) rfl, ?_⟩⟩⟩
    have el : es[n.toNat].l = e0.l := by omega
    rw [el] at s ⊢
    refine kept_spec2 s x3 (by omega) fun h3 ynew f3 s3 => ⟨_, rfl, cnot (ct rfl ?_)⟩
    rw [← el] at s3
    rw [wrap_i64 (by omega) (by omega)]
    refine ⟨⟨by omega, by omega, _, t2.ent f3 hie s3, fun j hj hj2 => ?_⟩, falls hi⟩
    rw [List.getElem?_set_ne (by omega)]
    exact hys j (by omega) hj2
  · refine kept_spec2 t2.x (StrAt.fr t2.fr B fun _ _ x => x) (by omega) fun h3 xnew f3 s3 => ⟨_, rfl, cnot (ct rfl ?_)⟩
    have ne2 : ∀ {k : Nat}, k ≠ 2 → ∀ b, col b = k → ¬ On col 2 b := fun hk b hb y => by have y : col b = 2 := y; omega
    have t3 : Lot h1 h3 col xa il xc xnew ma al mc es fa fc ys na kl nc (keep ++ [true]) :=
      ⟨t2.fr.trans f3 fun b hb y => by have := t2.base b hb; have y : col b = 2 := y; omega, t2.base, s3, t2.row.keep f3 (Ag.refl _ _) (ne2 (by decide)), t2.all.keep f3 (Ag.refl _ _) (ne2 (by decide)),
       t2.own.keep f3 (Ag.refl _ _) fun b hb y => by have y : col b = 2 := y; omega, t2.m.keep f3 (Ag.refl _ _) (ne2 (by decide)), t2.num⟩
    refine unmarked_spec t3.m (SlCells.fr t3.fr Kp fun _ _ x => x) hkl (by omega) fun h4 mnew f4 s4 => ⟨_, rfl, cnot (ct rfl ?_)⟩
    have ne6 : ∀ {k : Nat}, k ≠ 6 → ∀ b, col b = k → ¬ On col 6 b := fun hk b hb y => by have y : col b = 6 := y; omega
    have t4 : Lot h1 h4 col xa il xc xnew ma al mc es fa fc ys na kl nc mnew :=
      ⟨t3.fr.trans f4 fun b hb y => by have := t3.base b hb; have y : col b = 6 := y; omega, t3.base, t3.x.keep f4 (Ag.refl _ _) (ne6 (by decide)), t3.row.keep f4 (Ag.refl _ _) (ne6 (by decide)), t3.all.keep f4 (Ag.refl _ _) (ne6 (by decide)),
       t3.own.keep f4 (Ag.refl _ _) fun b hb y => by have y : col b = 6 := y; omega, s4, t3.num⟩
    exact afters3 t4 hil hal hK
theorem afters1 {ia aa ka wa pa pb : Option Addr} {ic kc wl wc la ca lb cb : Nat} {ibs res : List UInt8} {es0 : List Ent} {ts : List Tt} {keep : List Bool}
    (t : Lot h1 h col xa il xc (ibs ++ [165]) ma al mc es fa fc (ts.map fun t => t.2.2 ++ [165]) na kl nc (keep ++ [true])) (hA : Alike es ts) (hil : il ≤ 100000000) (hal : al ≤ 10000000) (hkm : kl ≤ 100000000)
    (B : StrAt h1 ia il ibs) (R : Rot h1 aa al es0 ts) (hbl : ∀ t ∈ ts, t.2.2.length < 100000000) (Kp : SlCells h1 ka (keep.map .bool)) (hkl : keep.length = kl)
    (hres : res.length ≤ 100000000) (w : Sl h 1 wa wl wc (res.map bv) (On col 1)) (sa : Sl h 1 pa la ca (res.map bv) (On col 8)) (sb : Sl h 1 pb lb cb (res.map bv) (On col 9))
    (hK : ∀ h', Fr No h1 h' → K (.bool true) h') : bolelaw03_AdiskAfters.k1 ia il ic aa al ka kl kc wa wl xa il xc xa (il + 1) xc ma al mc fa al na kl nc na (kl + 1) nc pa la ca h pb lb K := by
  have hla := sa.1
  rw [List.length_map, Nat.mul_one] at hla
  refine ⟨fun n hh => 0 ≤ n ∧ n ≤ la ∧ Fr (On col 8) h hh ∧ ∃ zs, Sl hh 1 pa la ca zs (On col 8), fun n _ => ((la : Int) - n).toNat, ⟨by omega, by omega, Fr.refl _ _, _, sa⟩, ?_⟩
  rintro n h2 ⟨n0, n1, f2, zs, s2⟩
  refine cd (fun hi => ?_) fun hi => ?_
  · obtain ⟨p, rfl, _⟩ := s2.get (by omega)
    have e := s2.mk
    obtain ⟨b, o, sp⟩ := p
    have e : sp = none := by simpa using e
    subst e
    obtain ⟨w1, w2⟩ := s2.wr
    refine ⟨⟨n0, hi⟩, os (Put.add w1 (by omega) fun h3 d3 => ?_)⟩
    rw [wrap_i64 (by omega) (by omega)]
    exact ⟨⟨by omega, by omega, f2.did d3 fun _ => s2.2.2.1, _, s2.putAt (j := n.toNat) (new := [_]) (by rw [List.length_singleton]; omega) d3⟩, falls hi⟩
  · refine New.intro fun h3 n3 => ⟨[.int .u8 91, .int .u8 91], rfl, cellsAll n3.rd, one2 rfl rfl, ?_⟩
    have g3 : Ag h2.size col (upd col h2.size 7) := ag_upd _ _ _
    have ne : ∀ {k : Nat}, k ≠ 8 → ∀ b, col b = k → ¬ On col 8 b := fun hk b hb y => by have y : col b = 8 := y; omega
    have t2 := t.keep f2 (Ag.refl _ _) fun b y => by have y : col b = 8 := y; omega
    have w2 := w.keep f2 (Ag.refl _ _) (ne (by decide))
    have b2 := sb.keep f2 (Ag.refl _ _) (ne (by decide))
    have t3 := t2.keep n3.fr g3 fun _ y => y.elim
    have w3 := w2.keep n3.fr g3 fun _ _ y => y
    have b3 := b2.keep n3.fr g3 fun _ _ y => y
    have s3 := s2.keep n3.fr g3 fun _ _ y => y
    refine append_col s3 rfl rfl (by show (la + 2) * 1 ≤ _; omega) (by omega) fun a4 c4 h4 f4 s4 => ?_
    have g4 : Ag h3.size (upd col h2.size 7) (upd (upd col h2.size 7) h3.size 8) := ag_upd _ _ _
    have ne4 : ∀ {k : Nat}, k ≠ 8 → ∀ b, upd col h2.size 7 b = k → ¬ On (upd col h2.size 7) 8 b := fun hk b hb y => by have y : upd col h2.size 7 b = 8 := y; omega
    have t4 := t3.keep f4 g4 fun b y => by have y : upd col h2.size 7 b = 8 := y; omega
    have w4 := w3.keep f4 g4 (ne4 (by decide))
    have b4 := b3.keep f4 g4 (ne4 (by decide))
    refine ⟨_, b4.str, _, w4.str, cnot (ct (beq_self_eq_true _) ?_)⟩
    have hmc := t4.row.le
    have hnum := t4.num
    have wr : IntKind.wrap .i64 ((al : Int) + 1) = (al : Int) + 1 := wrap_i64 (by omega) (by omega)
    rw [wr]
    obtain ⟨p, rfl, c⟩ := t4.row.get (by omega)
    refine ⟨⟨by omega, by omega⟩, ⟨by omega, by omega⟩, os ⟨-99, ?_, cn (fun x => absurd rfl x) fun _ => ?_⟩⟩
    · have := Cells.drop c (es.flatMap Ent.cells).length
      rw [List.drop_left, flat_length Ent.cells 3 es (fun _ _ => rfl), hnum] at this
      rw [Int.toNat_natCast]
      exact Cells.cell this (i := 0) rfl
    · exact afters2 t4 hA hil hal hkm B R hbl Kp hkl hK
end
theorem AdiskAfters_spec {ia aa ka : Option Addr} {il ic al ac kl kc : Nat} {ibs : List UInt8} {es : List Ent} {ts : List Tt} {keep : List Bool} {h : Heap} {K : Value → Heap → Prop}
    (B : StrAt h ia il ibs) (hil : il ≤ 100000000) (R : Rot h aa al es ts) (hal : al ≤ 10000000) (hbl : ∀ t ∈ ts, t.2.2.length < 100000000) (Kp : SlCells h ka (keep.map .bool)) (hkl : keep.length = kl) (hkm : kl ≤ 100000000)
    (hK : ∀ h', Fr No h h' → K (.bool true) h') : C.bolelaw03_AdiskAfters ia il ic aa al ac ka kl kc h K := by
  have hb := B.1
  have hresl : (aftOf ibs ts keep).1.length ≤ 100000000 := by
    unfold aftOf
    split
    · exact Nat.zero_le _
    · split
      · exact Nat.zero_le _
      · rename_i hnb hnf
        have hm := faultsT_may (N := (ibs.length / 512 : Nat)) (ts := ts) (by omega)
        rw [← left_fresh keep (N := ibs.length / 512) (chunks_len _) (chunks_length ibs) ts hm]
        have hl : ∀ (ts : List Tt) (S : RD), Calm S → (replay S ts).lasts.length = S.lasts.length ∧ Calm (replay S ts) := by
          intro ts
          induction ts with
          | nil => intro S c; exact ⟨rfl, c⟩
          | cons t r ih =>
            intro S c
            have e1 : again S t = one S (⟨t.1, t.2.1, none, 0, 0⟩, t.2.2) := rfl
            obtain ⟨i1, i2⟩ := ih (again S t) (by rw [e1]; exact c.one _)
            exact ⟨i1.trans (by rw [e1]; exact (one_keeps _ _).1), i2⟩
        obtain ⟨i1, i2⟩ := hl ts (Ad.fresh (chunks ibs)) (Calm.fresh (chunks_len _))
        show (applyTo (replay (Ad.fresh (chunks ibs)) ts).lasts (chosen (replay (Ad.fresh (chunks ibs)) ts).pend keep)).flatten.length ≤ _
        rw [join_length _ (applyTo_len _ _ i2.lw fun x hx => by
          obtain ⟨y, hy, rfl⟩ := List.mem_map.mp hx
          exact i2.pw _ (List.of_mem_zip (List.mem_filter.mp hy).1).1)]
        have e3 : ((replay (Ad.fresh (chunks ibs)) ts).cut keep).lasts.length = ibs.length / 512 := (cut_len _ _).trans (i1.trans (chunks_length ibs))
        have e3 : (applyTo (replay (Ad.fresh (chunks ibs)) ts).lasts (chosen (replay (Ad.fresh (chunks ibs)) ts).pend keep)).length = ibs.length / 512 := e3
        rw [e3]; omega
  refine bolelaw03_AdiskAfters.ok (RefAfter_all B (by omega) R (by omega) Kp hkl fun wa wl wc h2 f2 w2 => ⟨_, _, _, _, rfl, ?_⟩)
  have hs2 := f2.size
  have g2 : Ag h.size (fun _ => 0) (upd (fun _ => 0) h.size 1) := ag_upd _ _ _
  have w2 : Sl h2 1 wa wl wc ((aftOf ibs ts keep).1.map bv) (On (upd (fun _ => 0) h.size 1) 1) := w2.mono fun b hb => upd_ge hb
  refine lent_spec (StrAt.fr f2 B fun _ _ x => x) (by omega) fun xa xc h3 f3 x3 => ⟨_, _, _, _, _, _, rfl, ?_⟩
  have hs3 := f3.size
  have g3 : Ag h2.size (upd (fun _ => 0) h.size 1) (upd (upd (fun _ => 0) h.size 1) h2.size 2) := ag_upd _ _ _
  have w3 := w2.keep f3 g3 fun _ _ y => y
  have x3 : Sl h3 1 xa (il + 1) xc ((ibs ++ [165]).map bv) (On (upd (upd (fun _ => 0) h.size 1) h2.size 2) 2) := x3.mono fun b hb => upd_ge hb.1
  have F3 := f2.no f3
  generalize hc3 : upd (upd (fun _ => 0) h.size 1) h2.size 2 = col3 at w3 x3
  have hlow : ∀ b, col3 b < 3 := fun b => by rw [← hc3]; show (if b < h2.size then (if b < h.size then 0 else 1) else 2) < 3; split <;> (try split) <;> omega
  have hbase : ∀ b, b < h.size → col3 b = 0 := fun b hb => by rw [← hc3, upd_lt (by omega), upd_lt hb]
  refine copies_spec col3 (fun b _ => hlow b) (R.fr F3) hal hbl fun ma mc fa fc h4 col4 es' hes P hmc => ⟨_, _, _, _, _, _, rfl, ?_⟩
  have F4 := F3.no P.fr
  have w4 := w3.keep P.fr P.ag fun _ _ y => y
  have x4 := x3.keep P.fr P.ag fun _ _ y => y
  refine marks_spec (SlCells.fr F4 Kp fun _ _ x => x) hkl (by omega) fun na nc h5 f5 m5 => ⟨_, _, _, _, _, _, rfl, ?_⟩
  have g5 : Ag h4.size col4 (upd col4 h4.size 6) := ag_upd _ _ _
  have hs4 := F4.size
  have t5 : Lot h h5 (upd col4 h4.size 6) xa il xc (ibs ++ [165]) ma al mc es' fa fc (ts.map fun t => t.2.2 ++ [165]) na kl nc (keep ++ [true]) :=
    ⟨F4.no f5, fun b hb => by rw [upd_lt (n := h4.size) (b := b) (by omega), P.ag b (by have := F3.size; omega)]; exact hbase b hb, x4.keep f5 g5 fun _ _ y => y, P.row.keep f5 g5 fun _ _ y => y, P.all.keep f5 g5 fun _ _ y => y, P.own.keep f5 g5 fun _ _ y => y, m5.mono fun b hb => upd_ge hb, hes⟩
  have w5 := w4.keep f5 g5 fun _ _ y => y
  have ex : ∀ t ∈ ((es'.zip (ts.map fun t => t.2.2 ++ [165])).map fun x => (x.1.kind, x.1.at_, x.2.take x.1.l)), True := fun _ _ => trivial
  have ets : ((es'.zip (ts.map fun t => t.2.2 ++ [165])).map fun x => (x.1.kind, x.1.at_, x.2.take x.1.l)) = ts := by
    have hA := P.alike
    have hn := R.num
    apply List.ext_getElem
    · rw [List.length_map, List.length_zip, List.length_map]; omega
    · intro i g1 g2
      rw [List.getElem_map, List.getElem_zip, List.getElem_map]
      obtain ⟨z1, z2, z3⟩ := hA.at_ i (by omega) g2
      simp only [z1, z2, z3, List.take_left]
  have rot5 := t5.rot
  rw [ets] at rot5
  have hx5 := StrAt.take t5.x.str (n := il) (Nat.le_succ _)
  rw [← hb, List.take_left, hb] at hx5
  have hxc := t5.x.le
  have km : SlCells h5 na (keep.map .bool) := by
    obtain ⟨p, e, c⟩ := t5.m.get (by omega)
    subst e
    have := Cells.take c kl
    rw [← List.map_take, ← hkl, List.take_left] at this
    exact this
  refine After_all hx5 (by omega) (by omega) rot5 (by omega) km hkl fun pa la ca h6 f6 a6 => ⟨_, _, _, _, rfl, ?_⟩
  have g6 : Ag h5.size (upd col4 h4.size 6) (upd (upd col4 h4.size 6) h5.size 8) := ag_upd _ _ _
  have t6 := t5.keep f6 g6 fun _ y => y.elim
  have w6 := w5.keep f6 g6 fun _ _ y => y
  have a6 : Sl h6 1 pa la ca ((aftOf ibs ts keep).1.map bv) (On (upd (upd col4 h4.size 6) h5.size 8) 8) := a6.mono fun b hb => upd_ge hb
  refine After_all (StrAt.fr f6 hx5 fun _ _ x => x) (by omega) (by omega) (rot5.fr f6) (by omega) (SlCells.fr f6 km fun _ _ x => x) hkl fun pb lb cb h7 f7 b7 => ⟨_, _, _, _, rfl, ?_⟩
  have g7 : Ag h6.size (upd (upd col4 h4.size 6) h5.size 8) (upd (upd (upd col4 h4.size 6) h5.size 8) h6.size 9) := ag_upd _ _ _
  have t7 := t6.keep f7 g7 fun _ y => y.elim
  have w7 := w6.keep f7 g7 fun _ _ y => y
  have a7 := a6.keep f7 g7 fun _ _ y => y
  have b7 : Sl h7 1 pb lb cb ((aftOf ibs ts keep).1.map bv) (On (upd (upd (upd col4 h4.size 6) h5.size 8) h6.size 9) 9) := b7.mono fun b hb => upd_ge hb
  refine ⟨_, a7.str, _, w7.str, cnot (ct (beq_self_eq_true _) ⟨_, b7.str, _, w7.str, cnot (ct (beq_self_eq_true _) (cn (fun x => absurd rfl x) fun _ => cn (fun x => absurd rfl x) fun _ => ?_))⟩)⟩
  exact afters1 t7 P.alike hil hal hkm B R hbl Kp hkl hresl w7 a7 b7 hK
end Go.Proofs.Ytnbfaokpaiiojaa.L3
