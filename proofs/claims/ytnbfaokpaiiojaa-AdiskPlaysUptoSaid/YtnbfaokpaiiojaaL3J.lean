import Derived.Test.YtnbfaokpaiiojaaL3G
/-
  LAW AdiskLasts: plain facts, and its end.
-/
namespace Go.Proofs.Ytnbfaokpaiiojaa.L3
open Go Go.Proofs Go.Proofs.Ytnbfaokpaiiojaa.Wx Go.Proofs.Ytnbfaokpaiiojaa.Hp Go.Proofs.Ytnbfaokpaiiojaa.W Go.Proofs.Ytnbfaokpaiiojaa.Ad

theorem flat_blk (nb : List (List UInt8)) : nb.flatten.map bv = nb.flatMap blk := by
  rw [List.map_flatten]; rfl
theorem readFrom_apply : ∀ (ps : List (Int × List UInt8)) (ls : List (List UInt8)) (i : Nat) (hi : i < ls.length), (∀ x ∈ ps, 0 ≤ x.1 ∧ x.1 < ls.length) →
    some (readFrom ls[i] i ps) = (applyTo ls ps)[i]? := by
  intro ps
  induction ps with
  | nil => intro ls i hi _; simp [readFrom, applyTo, hi]
  | cons p r ih =>
    intro ls i hi hp
    have h0 := hp p (List.mem_cons_self ..)
    simp only [readFrom, applyTo, List.foldl_cons]
    have := ih (ls.set p.1.toNat p.2) i (by rw [List.length_set]; exact hi) (fun x hx => by rw [List.length_set]; exact hp x (List.mem_cons_of_mem _ hx))
    simp only [readFrom, applyTo] at this
    rw [← this]
    congr 2
    rw [List.getElem_set]
    by_cases e : p.1 = i
    · rw [if_pos e, if_pos (by omega)]
    · rw [if_neg e, if_neg (by omega)]
theorem chosen_true (ps : List (Int × List UInt8)) : chosen ps (List.replicate ps.length true) = ps := by
  induction ps with
  | nil => rfl
  | cons p r ih => simp only [chosen, List.length_cons, List.replicate_succ, List.zip_cons_cons, List.filter_cons, if_true, List.map_cons] at ih ⊢; rw [ih]
theorem chosen_false (ps : List (Int × List UInt8)) : chosen ps (List.replicate ps.length false) = [] := by
  induction ps with
  | nil => rfl
  | cons p r ih => simp only [chosen, List.length_cons, List.replicate_succ, List.zip_cons_cons, List.filter_cons, Bool.false_eq_true, if_false] at ih ⊢; exact ih
theorem applyTo_len (ps : List (Int × List UInt8)) : ∀ ls, (∀ x ∈ ls, x.length = 512) → (∀ x ∈ ps, x.2.length = 512) → ∀ x ∈ applyTo ls ps, x.length = 512 := by
  induction ps with
  | nil => intro ls h _; exact h
  | cons p r ih =>
    intro ls h hp
    refine ih _ (fun x hx => ?_) (fun x hx => hp x (List.mem_cons_of_mem _ hx))
    rcases List.mem_or_eq_of_mem_set hx with hx | rfl
    · exact h x hx
    · exact hp p (List.mem_cons_self ..)
/-- what is known of a disk behind orders: none is down -/
structure La (h0 : Heap) (q : Option Addr) (N i : Nat) (hh : Heap) (S : RD) (col : Nat → Nat) : Prop where
  D : DiskAt hh q S col 10
  down : S.down = false
  left : S.left = 0
  N : S.lasts.length = N
  pend : S.pend.length ≤ i
  tape : S.tape.length ≤ i
  pw : ∀ x ∈ S.pend, x.2.length = 512
  pi : ∀ x ∈ S.pend, 0 ≤ x.1 ∧ x.1 < S.lasts.length
  lw : ∀ x ∈ S.lasts, x.length = 512
  fr : Fr No h0 hh
  free : Free h0 col 10
theorem lasts2 {q : Option Addr} {h h0 : Heap} {K : Value → Heap → Prop} {S : RD} {col : Nat → Nat} (D : DiskAt h q S col 10) (hd : S.down = true) (hp : S.pend = []) (F : Fr No h0 h) (hK : ∀ h', Fr No h0 h' → K (.bool true) h') :
    bolelaw03_AdiskLasts.k2 q h (mkStr S.lasts.flatten) K := by
  refine Read_spec D (fun _ => ⟨_, _, _, _, rfl, ?_⟩) (fun x => by rw [hd] at x; exact Bool.noConfusion x) (fun x => by rw [hd] at x; exact Bool.noConfusion x)
  refine Image_spec D fun a c h17 f17 s17 => ⟨_, _, _, rfl, _, s17.str, ct (beq_self_eq_true _) (ct rfl ?_)⟩
  have D17 := D.keep f17 (Ag.refl _ _) (fun _ _ _ x => x)
  refine Ad.Down_spec D17 ⟨_, rfl, ct hd (Pending_spec D17 (by rw [hp]; decide) fun a' c' h19 f19 s19 => ⟨_, _, _, rfl, ?_⟩)⟩
  rw [hp]
  exact hK _ ((F.no f17).no f19)
end Go.Proofs.Ytnbfaokpaiiojaa.L3
/-
  LAW AdiskLasts: behind the orders.
-/
namespace Go.Proofs.Ytnbfaokpaiiojaa.L3
open Go Go.Proofs Go.Proofs.Ytnbfaokpaiiojaa.Wx Go.Proofs.Ytnbfaokpaiiojaa.Hp Go.Proofs.Ytnbfaokpaiiojaa.W Go.Proofs.Ytnbfaokpaiiojaa.Ad

theorem lasts1 {all : Bool} {q : Option Addr} {n2 : Int} {a : Option Addr} {c N i : Nat} {h h0 : Heap} {K : Value → Heap → Prop} {S : RD} {col : Nat → Nat} (L : La h0 q N i h S col) (hN : 1 ≤ N ∧ N ≤ 9) (hi : i ≤ 200) (hn2 : n2 = N)
    (s : Sl h 1 a (N * 512) c ((applyTo S.lasts S.pend).flatten.map bv) (On col 1)) (hK : ∀ h', Fr No h0 h' → K (.bool true) h') :
    bolelaw03_AdiskLasts.k1 all q n2 a (N * 512) c (mkStr S.lasts.flatten) h K := by
  have hLN := L.N
  have hal := applyTo_length S.pend S.lasts
  have haw := applyTo_len S.pend S.lasts L.lw L.pw
  refine ⟨fun j hh => 0 ≤ j ∧ j ≤ N ∧ Fr No h hh, fun j _ => ((N : Nat) - j).toNat, ⟨by omega, by omega, Fr.refl _ _⟩, ?_⟩
  rintro j h8 ⟨j0, j1, f8⟩
  rw [hn2]
  have D8 := L.D.keep f8 (Ag.refl _ _) (fun _ _ _ x => x)
  have s8 := s.fr f8 fun _ _ _ x => x
  refine cd (fun hj => ?_) fun hj => ?_
  · have hj' : j.toNat < S.lasts.length := by omega
    refine Read_spec D8 (fun x => by rw [L.down] at x; exact Bool.noConfusion x) (fun _ x => absurd ⟨j0, by omega⟩ x) fun _ _ _ b h9 f9 hb o9 r9 l9 => ⟨_, _, _, _, rfl, cn (fun x => absurd rfl x) fun _ => ⟨_, strAll r9 l9, ?_⟩⟩
    rw [wrap_i64 (n := j * 512) (by omega) (by omega), wrap_i64 (n := j * 512 + 512) (by omega) (by omega), wrap_i64 (n := j + 1) (by omega) (by omega)]
    have e1 : (j * 512).toNat = j.toNat * 512 := by omega
    have e2 : (j * 512 + 512).toNat - j.toNat * 512 = 512 := by omega
    have hle : N * 512 ≤ c := s.le
    have hok := sub_ok j0 hj
    have B := strSub (StrAt.fr f9 s8.str (fun _ _ x => x)) hle hok (Nat.succ_pos 511)
    have hja : j.toNat < (applyTo S.lasts S.pend).length := by rw [hal]; exact hj'
    rw [join_part _ haw _ hja] at B
    have hr : readAt S j.toNat = (applyTo S.lasts S.pend)[j.toNat] := by
      have e := readFrom_apply S.pend S.lasts j.toNat hj' L.pi
      rw [List.getElem?_eq_getElem hja] at e
      rw [readAt, List.getD_eq_getElem?_getD, List.getElem?_eq_getElem hj', Option.getD_some]
      exact Option.some.inj e
    refine ⟨by omega, _, by rw [e1, e2]; exact B, ?_⟩
    rw [hr, beq_self_eq_true]
    exact ⟨⟨by omega, by omega, f8.no f9⟩, falls hj⟩
  refine Image_spec D8 fun a3 c3 h10 f10 s10 => ⟨_, _, _, rfl, _, s10.str, cnot (ct (beq_self_eq_true _) ?_)⟩
  have D10 := D8.keep f10 (Ag.refl _ _) (fun _ _ _ x => x)
  have hpend := L.pend
  refine Pending_spec D10 (by omega) fun a4 c4 h11 f11 s11 => ⟨_, _, _, rfl, ?_⟩
  have D11 := D10.keep f11 (Ag.refl _ _) (fun _ _ _ x => x)
  have F11 : Fr No h h11 := (f8.no f10).no f11
  refine ⟨fun ka kl kc n hh => 0 ≤ n ∧ n ≤ S.pend.length ∧ kl = n.toNat ∧ Fr No h11 hh ∧ Sl hh 1 ka kl kc ((List.replicate n.toNat all).map .bool) (From h11.size), fun _ _ _ n _ => (S.pend.length - n).toNat,
    ⟨by omega, by omega, rfl, Fr.refl _ _, Sl.nil _ _ _⟩, ?_⟩
  rintro ka kl kc n h12 ⟨n0, n1, hkl, f12, s12⟩
  refine cd (fun hn => New.intro fun h13 n13 => ?_) fun hn => ?_
  · refine ⟨[.bool all], rfl, cellsAll n13.rd, by intro v hv; rw [List.mem_singleton.mp hv]; rfl, ?_⟩
    have hs13 := n13.size
    have hs12 := f12.size
    refine append_own (s12.fr n13.fr fun _ _ _ x => x) rfl rfl (by show (kl + 1) * 1 ≤ _; omega) (by omega) fun a' c' h14 f14 s14 => ?_
    rw [wrap_i64 (by omega) (by omega)]
    have ht : (n + 1).toNat = n.toNat + 1 := by omega
    refine ⟨⟨by omega, by omega, by omega, ?_, ?_⟩, falls hn⟩
    · exact (f12.new n13).trans f14 (fun b hb e => by have : h11.size ≤ b := e; omega)
    · rw [ht, List.replicate_succ', List.map_append]
      exact s14.mono fun b hb => by rcases hb with hb | hb; exact hb; show h11.size ≤ b; omega
  have en : n.toNat = S.pend.length := by omega
  rw [en] at hkl s12
  have g12 : Ag h11.size col (upd col h11.size 1) := ag_upd _ _ _
  have D12 := D11.keep f12 g12 (fun _ _ _ x => x)
  have hs11 : h0.size ≤ h11.size := Nat.le_trans L.fr.size F11.size
  refine Crash_spec (keep := List.replicate S.pend.length all) D12 (by rw [List.length_replicate, hkl]) s12.cells (fun p hp _ => ?_) fun h15 f15 D15 => ⟨rfl, ?_⟩
  · subst hp
    have : upd col h11.size 1 p.block = 1 := upd_ge s12.2.2.1
    omega
  rw [if_neg (by rw [L.down]; exact Bool.false_ne_true)] at D15
  have F12 : Fr No h h12 := F11.no f12
  have F15 : Fr No h0 h15 := (L.fr.no F12).trans f15 fun b hb x => by
    have x1 := x.1
    have x2 := x.2
    rw [upd_lt (by omega)] at x1 x2
    exact L.free b hb x1 x2
  have hs : h.size ≤ h11.size := F11.size
  have s12' : Sl h12 1 a (N * 512) c ((applyTo S.lasts S.pend).flatten.map bv) (On (upd col h11.size 1) 1) := s.keep F12 (g12.le hs) (fun _ _ x => x)
  have s15 := s12'.fr f15 fun b _ hb x => by have hb : upd col h11.size 1 b = 1 := hb; have := x.1; omega
  cases all with
  | true =>
    refine ct rfl ⟨_, s15.str, ?_⟩
    have e : (S.cut (List.replicate S.pend.length true)).lasts = applyTo S.lasts S.pend := by show applyTo S.lasts (chosen S.pend _) = _; rw [chosen_true]
    have := lasts2 (K := K) D15 rfl rfl F15 hK
    rw [e] at this; exact this
  | false =>
    refine cf rfl ?_
    have e : (S.cut (List.replicate S.pend.length false)).lasts = S.lasts := by show applyTo S.lasts (chosen S.pend _) = _; rw [chosen_false]; rfl
    have := lasts2 (K := K) D15 rfl rfl F15 hK
    rw [e] at this; exact this
end Go.Proofs.Ytnbfaokpaiiojaa.L3
/-
  LAW AdiskLasts, the whole.
-/
namespace Go.Proofs.Ytnbfaokpaiiojaa.L3
open Go Go.Proofs Go.Proofs.Ytnbfaokpaiiojaa.Wx Go.Proofs.Ytnbfaokpaiiojaa.Hp Go.Proofs.Ytnbfaokpaiiojaa.W Go.Proofs.Ytnbfaokpaiiojaa.Ad

theorem doOrd_flush {S : RD} {o : Ord} (ho : o.flush = true) (hd : S.down = false) (hl : S.left = 0) : doOrd S o = (RD.flushed { S with flushes := IntKind.wrap .i64 (S.flushes + 1) }, 0) := by
  rw [doOrd, if_pos ho, RD.flush, if_neg (by rw [hd]; exact Bool.false_ne_true), RD.step, if_neg (by show ¬ 0 < S.left; omega)]
theorem AdiskLasts_spec {n : Int} {pa : Option Addr} {pl pc : Nat} {os : List Ord} {all : Bool} {h : Heap} {K : Value → Heap → Prop}
    (P : SlCells h pa (os.flatMap Ord.cells)) (hos : os.length = pl) (hpl : pl ≤ 140737488355328)
    (hK : ∀ h', Fr No h h' → K (.bool true) h') : C.bolelaw03_AdiskLasts n pa pl pc all h K := by
  have hm0 := Int.emod_nonneg n (show (9 : Int) ≠ 0 by decide)
  have hm1 := Int.emod_lt_of_pos n (show (0 : Int) < 9 by decide)
  have hN1 : 1 ≤ many n ∧ many n ≤ 9 := by unfold many; omega
  refine bolelaw03_AdiskLasts.ok (fresh_spec (fun _ => 0) 10 1 (Or.inl (by omega)) (free0 h (by omega)) fun q a c h2 col2 f2 g2 D2 new2 s2 hp2 => ⟨_, _, _, _, rfl, cf rfl (Ad.Blocks_spec D2 ⟨_, rfl, _, s2.str, ?_⟩)⟩)
  have hlen : (fresh (blocks0 (many n))).lasts.length = many n := blocks0_length _
  rw [hlen]
  have free2 : Free h col2 10 := fun b hb c1 c2 => by
    rw [g2 b hb] at c1
    have c1 : (10 : Nat) ≤ 0 := c1
    omega
  refine ⟨fun a l c last i hh => 0 ≤ i ∧ i ≤ 200 ∧ i ≤ pl ∧ l = many n * 512 ∧ ∃ S col, La h q (many n) i.toNat hh S col ∧ last = mkStr S.lasts.flatten ∧ Sl hh 1 a (many n * 512) c ((applyTo S.lasts S.pend).flatten.map bv) (On col 1), fun _ _ _ _ i _ => ((pl : Nat) - i).toNat,
    ⟨by omega, by omega, by omega, rfl, fresh (blocks0 (many n)), col2, ⟨D2, rfl, rfl, hlen, Nat.zero_le _, Nat.zero_le _, (fun x hx => by simp [fresh] at hx), (fun x hx => by simp [fresh] at hx), blocks0_len _, f2, free2⟩, rfl, s2⟩, ?_⟩
  rintro a l c last i h4 ⟨i0, i2, i1, rfl, S, col, L, rfl, s⟩
  have fin : ∀ h9, Fr No h4 h9 → bolelaw03_AdiskLasts.k1 all q (many n : Nat) a (many n * 512) c (mkStr S.lasts.flatten) h9 K := fun h9 f9 =>
    lasts1 ⟨L.D.keep f9 (Ag.refl _ _) (fun _ _ _ x => x), L.down, L.left, L.N, L.pend, L.tape, L.pw, L.pi, L.lw, L.fr.no f9, L.free⟩ hN1 (by omega) rfl (s.fr f9 fun _ _ _ x => x) hK
  refine cd (fun hi => ?_) fun hi => fin h4 (Fr.refl _ _)
  have hi' : i.toNat < os.length := by omega
  cases pa with
  | none =>
    have P : os.flatMap Ord.cells = [] := P
    have := flat_length Ord.cells 3 os (fun _ _ => rfl)
    rw [P] at this; simp at this; omega
  | some p =>
  have hcell : Cells h4 (p.add (i.toNat * 3)) (Ord.cells os[i.toNat]) := by
    have := Cells.part (SlCells.fr L.fr P (fun _ _ x => x)) (i.toNat * 3) 3
    rw [flat_part Ord.cells 3 os (fun _ _ => rfl) _ hi'] at this
    exact this
  refine ⟨⟨i0, hi⟩, Hp.os ⟨_, rfl, hcell, NewRow.intro rfl ?_ rfl fun h6 n6 => ?_⟩⟩
  · intro v hv; simp only [Ord.cells, List.mem_cons, List.not_mem_nil, or_false] at hv; rcases hv with rfl | rfl | rfl <;> rfl
  refine cd (fun _ => fin h6 n6.fr) fun h200 => ?_
  have g6 : Ag h4.size col (upd col h4.size 16) := ag_upd _ _ _
  have lt6 : h4.size < h6.size := n6.own.lt
  have D6 := L.D.keep n6.fr g6 (fun _ _ _ x => x)
  have hs4 := L.fr.size
  have hLN := L.N
  have hpe := L.pend
  have hta := L.tape
  have free6 : Free h (upd col h4.size 16) 10 := fun b hb c1 c2 => by
    rw [upd_lt (by omega)] at c1 c2
    exact L.free b hb c1 c2
  refine ⟨_, rfl, cellsAll n6.rd, do_spec D6 (by omega) (by omega) (by omega) (by omega) fun h20 col20 f20 g20 D20 => ⟨_, rfl, ?_⟩⟩
  have nl : ¬ Dk (upd col h4.size 16) 10 h4.size := fun x => by have := x.2; rw [upd_ge (Nat.le_refl _)] at this; omega
  have r20 := (f20.rd lt6 nl).trans n6.rd
  have F20 : Fr No h h20 := (L.fr.new n6).trans f20 (fun b hb x => free6 b hb x.1 x.2)
  have free20 : Free h col20 10 := fun b hb c1 c2 => by
    have := n6.size
    rw [g20 b (by omega)] at c1 c2
    exact free6 b hb c1 c2
  have s6 : Sl h6 1 a (many n * 512) c ((applyTo S.lasts S.pend).flatten.map bv) (On (upd col h4.size 16) 1) := s.keep n6.fr g6 (fun _ _ x => x)
  have s20 : Sl h20 1 a (many n * 512) c ((applyTo S.lasts S.pend).flatten.map bv) (On col20 1) := s6.keep f20 g20 (fun b hb x => by have := x.1; omega)
  have hk1 : (i + 1).toNat = i.toNat + 1 := by omega
  have hwr : IntKind.wrap .i64 (i + 1) = i + 1 := wrap_i64 (by omega) (by omega)
  have hal := applyTo_length S.pend S.lasts
  have haw := applyTo_len S.pend S.lasts L.lw L.pw
  cases hfl : os[i.toNat].flush with
  | true =>
    rw [doOrd_flush hfl L.down L.left] at D20 ⊢
    refine cn (fun x => absurd rfl x) fun _ => ⟨_, rda r20 rfl, ct hfl ⟨_, s20.str, ?_⟩⟩
    rw [hwr]
    refine ⟨⟨by omega, by omega, by omega, rfl, _, col20, ⟨D20, L.down, L.left, hal.trans hLN, Nat.zero_le _, ?_, (fun x hx => by simp [RD.flushed] at hx), (fun x hx => by simp [RD.flushed] at hx), haw, F20, free20⟩, rfl, s20⟩, falls hi⟩
    show (S.tape ++ [_]).length ≤ _
    rw [List.length_append, List.length_singleton, hk1]; omega
  | false =>
    rw [doOrd_write hfl L.down L.left (by omega)] at D20 ⊢
    refine cn (fun x => absurd rfl x) fun _ => ⟨_, rda r20 rfl, cf hfl ?_⟩
    obtain ⟨t1, t2, t3⟩ := StrAt.src s20.str
    refine ⟨_, t1, t2, t3, append_nil t1 rfl (by show many n * 512 * 1 ≤ _; omega) (by omega) fun a9 c9 h21 f21 s21 => ?_⟩
    have lt20 : h4.size < h20.size := Nat.lt_of_lt_of_le lt6 f20.size
    have r21 := (f21.rd lt20 (fun x => x)).trans r20
    refine ⟨_, rda r21 rfl, _, rda r21 rfl, mod_spec (by omega) (by omega) ⟨_, rfl, rda r21 rfl, ?_⟩⟩
    have e0 := Int.emod_nonneg os[i.toNat].at_ (show ((many n : Nat) : Int) ≠ 0 by omega)
    have e1 := Int.emod_lt_of_pos os[i.toNat].at_ (show (0 : Int) < (many n : Nat) by omega)
    have hj : (os[i.toNat].at_ % (many n : Nat)).toNat < many n := by omega
    have ew : IntKind.wrap .i64 (os[i.toNat].at_ % (many n : Nat) * 512) = os[i.toNat].at_ % (many n : Nat) * 512 := wrap_i64 (by omega) (by omega)
    have et : (os[i.toNat].at_ % (many n : Nat) * 512).toNat = (os[i.toNat].at_ % (many n : Nat)).toNat * 512 := by omega
    rw [ew, et]
    refine ⟨by omega, block_spec fun h23 f23 o23 r23 => ⟨_, _, _, rfl, ?_⟩⟩
    have hle := s21.le
    have hok : (os[i.toNat].at_ % (many n : Nat)).toNat * 512 + 512 ≤ many n * 512 := sub_ok e0 e1
    rw [if_neg (by omega), hwr]
    have g21 : Ag h20.size col20 (upd col20 h20.size 1) := ag_upd _ _ _
    have F23 : Fr No h20 h23 := f21.no f23
    have D23 := D20.keep F23 g21 (fun _ _ _ x => x)
    have s23 : Sl h23 1 a9 (many n * 512) c9 ((applyTo S.lasts S.pend).flatten.map bv) (On (upd col20 h20.size 1) 1) := (s21.fr f23 fun _ _ _ x => x).mono fun b hb => upd_ge hb
    obtain ⟨p9, rfl, _⟩ := s23.get (by omega)
    have hp9 := s23.mk
    rw [hp9] at s23 ⊢
    obtain ⟨w1, w2⟩ := s23.wr
    have hrl : ((rep os[i.toNat].fill).map bv).length = 512 := by rw [List.length_map, rep_length]
    have hmin : min 512 (many n * 512 - (os[i.toNat].at_ % (many n : Nat)).toNat * 512) = 512 := by omega
    rw [Option.map_some, add_mk]
    refine CopyP.intro (new := (rep os[i.toNat].fill).map bv) (by rw [hrl, hmin]; rfl) (cellsAll r23) (bv_one _) w1 (by rw [hrl]; omega) fun h24 d24 => ?_
    have s24 := s23.putAt (by rw [hrl, Nat.mul_one]; exact hok) d24
    have hcb : upd col20 h20.size 1 p9.block = 1 := s23.2.2.1
    have hnew : h.size ≤ p9.block := by
      have : h20.size ≤ p9.block := s21.2.2.1
      have := F20.size
      omega
    have eP : put ((applyTo S.lasts S.pend).flatten.map bv) ((os[i.toNat].at_ % (many n : Nat)).toNat * 512) ((rep os[i.toNat].fill).map bv) = ((applyTo S.lasts (S.pend ++ [(os[i.toNat].at_ % S.lasts.length, rep os[i.toNat].fill)])).flatten.map bv) := by
      rw [flat_blk, flat_blk, applyTo, applyTo, List.foldl_append, hLN]
      exact put_part blk 512 _ (fun x hx => blk_len (haw x hx)) _ (by rw [hal, hLN]; exact hj) (rep os[i.toNat].fill) (blk_len (rep_length _))
    rw [eP] at s24
    refine ⟨⟨by omega, by omega, by omega, rfl, S.putW (os[i.toNat].at_ % S.lasts.length) (rep os[i.toNat].fill), upd col20 h20.size 1, ⟨D23.keep d24.fr (Ag.refl _ _) (fun b c1 c2 e => by rw [e, hcb] at c1; omega), L.down, L.left, hLN, ?_, ?_, ?_, ?_, L.lw, ?_, ?_⟩, rfl, s24⟩, falls hi⟩
    · show (S.pend ++ [_]).length ≤ _
      rw [List.length_append, List.length_singleton, hk1]; omega
    · show (S.tape ++ [_]).length ≤ _
      rw [List.length_append, List.length_singleton, hk1]; omega
    · intro x hx; rcases List.mem_append.mp hx with hx | hx
      · exact L.pw x hx
      · rw [List.mem_singleton.mp hx]; exact rep_length _
    · intro x hx; rcases List.mem_append.mp hx with hx | hx
      · exact L.pi x hx
      · rw [List.mem_singleton.mp hx, hLN]; exact ⟨e0, by show _ < ((S.lasts.length : Nat) : Int); rw [hLN]; exact e1⟩
    · exact (F20.no F23).did d24 (fun x => by omega)
    · intro b hb c1 c2
      have := F20.size
      rw [upd_lt (by omega)] at c1 c2
      exact free20 b hb c1 c2
end Go.Proofs.Ytnbfaokpaiiojaa.L3
