/-
  TxnBack: the law's function answers true.
-/
import Derived.Test.YtpleolmalbdpnaaDoorTxR
namespace Go.Proofs.YtpleolmalbdpnaaDoor.Txl
open Go Go.Proofs Go.Proofs.YtpleolmalbdpnaaDoor.Wx Go.Proofs.YtpleolmalbdpnaaDoor.Hp Go.Proofs.YtpleolmalbdpnaaDoor.W Go.Proofs.YtpleolmalbdpnaaDoor.Ad Go.Proofs.YtpleolmalbdpnaaDoor.Tm Go.Proofs.YtpleolmalbdpnaaDoor.Spc

theorem taken_spec {a : Option Addr} {l c : Nat} {h : Heap} {K : Value → Heap → Prop} (hK : K (.int .i64 ((min 60 l : Nat) : Int)) h) : C.bolelaw06_taken a l c h K := by
  refine bolelaw06_taken.ok (cd (fun h1 => ?_) fun h1 => ?_)
  · rw [show min 60 l = 60 by omega] at hK; exact hK
  · rw [show min 60 l = l by omega] at hK; exact hK
theorem back_bad {T : TM} (h : T.over = false) {m : Int} (hm : m < 0 ∨ m > T.undo.length) : T.back m = (T, 62) := by unfold TM.back; rw [h, if_neg (by simp), if_pos hm]
theorem back_fillI {T : TM} {ps : List Pt} {m : Nat} (h : T.over = false) (e : T.undo.length = m) : (fillT T ps).back (m : Int) = (T, 0) := by rw [← e]; exact back_fill T ps h
/-- what a commit of a row of puts leaves -/
structure Left (now : List UInt8) (n : Nat) (S : RD) : Prop where
  down : S.down = false
  len : S.lasts.length = 118
  read : ∀ k : Nat, 98 ≤ k → k < 118 → readAt S k = blk1 (now.getD k 0)
  w : S.writes = if n = 0 then 0 else 2 * n + 2
  f : S.flushes = if n = 0 then 0 else 4
theorem Kx.commit {m : Nat} {now : List UInt8} {is : List Bool} {T : TM} (a : Kx m now is T) (d : T.disk = (begun 118).disk) : ∃ S, T.commit = (TM.ended S, 0) ∧ Left now (lsI is 118).length S := by
  have pl := a.putLen
  by_cases e : T.put = []
  · have e0 : T.commit = (TM.ended T.disk, 0) := by unfold TM.commit; rw [a.live, if_neg (by simp), if_pos e]
    have l0 : (lsI is 118).length = 0 := by rw [← pl, e]; rfl
    refine ⟨T.disk, e0, by rw [d]; rfl, a.N, fun k h1 h2 => ?_, by rw [l0, if_pos rfl, d]; rfl, by rw [l0, if_pos rfl, d]; rfl⟩
    have := a.data k h1 h2
    rw [TM.read_live a.live, a.N, if_neg (by omega), TM.get_none (by rw [e]; rfl), if_neg (by rw [d]; intro y; cases y)] at this
    exact this
  · have N : New T.disk := by rw [d]; exact fresh_new 118
    obtain ⟨S, ec, kp⟩ := commit_good (a.good N) e
    have ne : (lsI is 118).length ≠ 0 := by rw [← pl]; exact fun y => e (List.eq_nil_of_length_eq_zero y)
    refine ⟨S, ec, kp.q.down, by rw [kp.n, a.N], fun k h1 h2 => ?_, ?_, ?_⟩
    · rw [kp.read k h1 (by rw [a.N]; exact h2)]; exact a.data k h1 h2
    · rw [if_neg ne, kp.w, N.w, pl]; omega
    · rw [if_neg ne, kp.f, N.f]; omega
/-- what stands while the law goes on: the transaction, a row of bytes, a row of numbers -/
structure Lb (h0 hh : Heap) (F : Nat → Prop) (t d : Option Addr) (T : TM) (a1 : Nat) (nw : List UInt8) (la : Option Addr) (ls : List Int) : Prop where
  z : Tz h0 hh F t d T
  r1 : rd hh a1 = nw.map bv
  n1 : a1 < hh.size ∧ ¬ F a1
  row : SlCells hh la (Hd.ints ls)
  rn : ∀ p, la = some p → p.block < hh.size ∧ ¬ F p.block
theorem Lb.call {h0 hh hh' : Heap} {F F' : Nat → Prop} {t d : Option Addr} {T T' : TM} {a1 : Nat} {nw : List UInt8} {la : Option Addr} {ls : List Int} (a : Lb h0 hh F t d T a1 nw la ls) (f : Fr F hh hh') (g : Gw hh F hh' F') (x : Tx hh' F' t d T') : Lb h0 hh' F' t d T' a1 nw la ls := by
  have z := f.size
  have out : ∀ b, b < hh.size → ¬ F b → ¬ F' b := fun b hb h y => h ((g.old b hb).mp y)
  exact ⟨a.z.call f g x, (f.rd a.n1.1 a.n1.2).trans a.r1, ⟨by have := a.n1.1; omega, out _ a.n1.1 a.n1.2⟩, SlCells.fr f a.row fun p e => (a.rn p e).2, fun p e => ⟨by have := (a.rn p e).1; omega, out _ (a.rn p e).1 (a.rn p e).2⟩⟩
theorem Lb.stay {h0 hh hh' : Heap} {F : Nat → Prop} {t d : Option Addr} {T T' : TM} {a1 : Nat} {nw : List UInt8} {la : Option Addr} {ls : List Int} (a : Lb h0 hh F t d T a1 nw la ls) (f : Fr F hh hh') (x : Tx hh' F t d T') : Lb h0 hh' F t d T' a1 nw la ls :=
  a.call f (Gw.refl f.size fun b y => a.z.x.lt y) x
theorem Lb.no {h0 hh hh' : Heap} {F : Nat → Prop} {t d : Option Addr} {T : TM} {a1 : Nat} {nw : List UInt8} {la : Option Addr} {ls : List Int} (a : Lb h0 hh F t d T a1 nw la ls) (f : Fr No hh hh') : Lb h0 hh' F t d T a1 nw la ls :=
  a.stay (f.mono fun _ _ y => y.elim) (a.z.x.no f)
theorem lsI_len (is : List Bool) (n : Nat) : (lsI is n).length ≤ n := by
  unfold lsI
  rw [List.length_map]
  exact Nat.le_trans (List.length_filter_le _ _) (by rw [List.length_range]; exact Nat.le_refl _)
theorem back_step {h0 hh : Heap} {F : Nat → Prop} {t d : Option Addr} {T T' : TM} {a1 : Nat} {nw : List UInt8} {la : Option Addr} {ls : List Int} {m e : Int} {K : Value → Heap → Prop} (L : Lb h0 hh F t d T a1 nw la ls) (hu : T.undo.length < 1000000000) (eb : T.back m = (T', e))
    (hK : ∀ h', Lb h0 h' F t d T' a1 nw la ls → K (.int .i64 e) h') : C.txn_Txn_Back t m hh K := by
  refine Back_spec L.z.x hu fun h' f x => ?_
  rw [eb] at x ⊢
  exact hK h' (L.stay f x)
theorem TxnBack_spec {h : Heap} {a1 a2 a3 : Option Addr} {c1 c2 c3 : Nat} {p1 p2 p3 : List Pt} {K : Value → Heap → Prop} (G : Re.Glo h) (P1 : SlCells h a1 (p1.flatMap ptV)) (P2 : SlCells h a2 (p2.flatMap ptV)) (P3 : SlCells h a3 (p3.flatMap ptV)) (hK : ∀ h', Fr No h h' → K (.bool true) h') :
    C.bolelaw06_TxnBack a1 p1.length c1 a2 p2.length c2 a3 p3.length c3 h K := by
  refine bolelaw06_TxnBack.ok (fresh_spec (N := 118) (by decide) (by decide) fun q h2 D f2 hD A => ⟨_, rfl, cf rfl ?_⟩)
  refine known_spec (G.no f2) fun h3 f3 => ⟨_, rfl, cf rfl ?_⟩
  unfold bolelaw06_TxnBack.k1
  refine begin_spec (f2.no f3) hD (A.no f3) fun tb h5 F Z5 => ⟨_, rfl, cf rfl ?_⟩
  refine Fill_spec Z5.x Kx.start (Z5.cells P1) (by decide) fun h6 F6 f6 g6 x6 => ⟨_, _, _, rfl, ?_⟩
  have Z6 := Z5.call f6 g6 x6
  have K1 := Kx.start.fill p1
  generalize hnw : fillN (now0 118) p1 = nw at K1 ⊢
  generalize hiz : fillI (List.replicate 118 false) p1 = iz at K1 ⊢
  have ln : nw.length = 118 := K1.nl
  have li : iz.length = 118 := K1.il
  have edk : (fillT (begun 118) p1).disk = (begun 118).disk := fill_disk _ _
  clear x6 hnw hiz
  generalize fillT (begun 118) p1 = T at K1 Z6 edk
  have live := K1.live
  have hm : T.undo.length = min 60 p1.length := by rw [K1.undo, Nat.zero_add]
  refine lay_two (K := fun h7 h10 => _) (by rw [List.length_map, ln]) (by rw [List.length_map, li]) (bv_one _) (bool_one _) fun h7 h10 z7 f10 z10 r1 r2 => ?_
  have Z10 := Z6.no f10
  refine Mark_spec Z10.x ⟨_, _, rfl, cf rfl (taken_spec ⟨_, rfl, ?_⟩)⟩
  have em : T.mark = (((min 60 p1.length : Nat) : Int), 0) := by unfold TM.mark; rw [live, if_neg (by simp), hm]
  rw [em]
  refine cn (fun y => absurd rfl y) fun _ => cn (fun y => absurd rfl y) fun _ => ?_
  generalize hm1 : min 60 p1.length = m at K1 hm em ⊢
  have hm60 : m ≤ 60 := by omega
  rw [Nat.zero_add] at K1
  unfold bolelaw06_TxnBack.k2
  have n1 : ¬ F6 h6.size := fun y => by have := Z6.x.lt y; omega
  refine ⟨fun la ll lc i hh => ∃ k : Nat, i = k ∧ 98 ≤ k ∧ k ≤ 118 ∧ Fr No h10 hh ∧ ll = (lsI iz k).length ∧ Sl hh 1 la ll lc (Hd.ints (lsI iz k)) (From h10.size), fun _ _ _ i _ => (118 - i).toNat,
    ⟨98, rfl, Nat.le_refl _, by decide, Fr.refl _ _, by rw [lsI_98]; rfl, by rw [lsI_98]; exact Sl.nil _ _ _⟩, ?_⟩
  rintro la ll lc i h14 ⟨k, ei, k0, k1, f14, el, s14⟩
  refine cd (fun hlt => ?_) fun hlt => ?_
  · have hk : k < 118 := by omega
    subst ei
    have et : Int.toNat (k : Int) = k := rfl
    have r2' : rd h14 h7.size = iz.map .bool := (f14.rd (by omega) fun y => y).trans r2
    rw [et]
    refine ⟨⟨by omega, by omega⟩, _, row_getB r2' (by omega), ?_⟩
    have es := lsI_succ iz k
    have z14 := f14.size
    have lk := lsI_len iz k
    refine cs (fun hb => ?_) fun hb => ?_
    · rw [if_pos ⟨k0, hb⟩] at es
      refine New.intro fun h19 n19 => ?_
      have z19 := n19.size
      refine ⟨[.int .i64 (k : Int)], rfl, cellsAll n19.rd, fun v hv => by rw [List.mem_singleton.mp hv]; rfl, ?_⟩
      have s19 : Sl h19 1 la ll lc (Hd.ints (lsI iz k)) (From h10.size) := s14.fr n19.fr fun _ _ _ y => y
      refine append_own (elem := ti3) s19 rfl rfl (by show (ll + 1) * 8 ≤ _; omega) (by omega) fun a' c' h20 f20 s20 => ?_
      rw [wrap_i64 (by omega) (by omega)]
      refine ⟨⟨k + 1, by omega, by omega, by omega, (f14.new n19).trans f20 fun b hb y => by have y : h10.size ≤ b := y; omega, by rw [es, List.length_append, el]; rfl, ?_⟩, by show ((118 : Int) - ((k : Int) + 1)).toNat < ((118 : Int) - k).toNat; omega⟩
      rw [es]
      unfold Hd.ints at s20 ⊢
      rw [List.map_append]
      exact s20.mono fun b y => y.elim id fun w => by show h10.size ≤ b; omega
    · rw [if_neg (by rw [hb]; simp), List.append_nil] at es
      rw [wrap_i64 (by omega) (by omega)]
      exact ⟨⟨k + 1, by omega, by omega, by omega, f14, by rw [es]; exact el, by rw [es]; exact s14⟩, by show ((118 : Int) - ((k : Int) + 1)).toNat < ((118 : Int) - k).toNat; omega⟩
  have ek : k = 118 := by omega
  subst ek
  subst el
  have l118 := lsI_len iz 118
  have L14 : Lb h h14 F6 (some ⟨tb, 0, none⟩) (some q) T h6.size nw la (lsI iz 118) := by
    refine ⟨Z10.no f14, (f14.rd (by omega) fun y => y).trans r1, ⟨by have := f14.size; omega, n1⟩, s14.cells, fun p e => ?_⟩
    subst e
    obtain ⟨_, _, k, o, _⟩ := s14
    refine ⟨o.lt, fun y => ?_⟩
    have k : h10.size ≤ p.block := k
    have := Z6.x.lt y
    omega
  refine ⟨fun r hh => ∃ (k : Nat) (F' : Nat → Prop), r = k ∧ k ≤ 2 ∧ Lb h hh F' (some ⟨tb, 0, none⟩) (some q) T h6.size nw la (lsI iz 118), fun r _ => (2 - r).toNat, ⟨0, F6, rfl, by decide, L14⟩, ?_⟩
  rintro r h17 ⟨k, F17, er, hk2, L17⟩
  refine cd (fun hlt => ?_) fun hlt => ?_
  · refine Fill_spec L17.z.x K1 (L17.z.cells P2) (by omega) fun h18 F18 f18 g18 x18 => ⟨_, _, _, rfl, ?_⟩
    have K2 := K1.fill p2
    have L18 := L17.call f18 g18 x18
    have hm2 : (fillT T p2).undo.length = m + min 60 p2.length := K2.undo
    have hb2 : (fillT T p2).back (m : Int) = (T, 0) := back_fillI live hm
    have live2 := K2.live
    clear x18
    generalize fillT T p2 = T2 at K2 L18 hm2 hb2 live2
    refine lay_two (K := fun h19 h22 => _) (by rw [List.length_map, fillN_len]) (by rw [List.length_map, fillI_len]) (bv_one _) (bool_one _) fun h19 h22 _ f22 _ _ _ => ?_
    have L22 := L18.no f22
    refine Mark_spec L22.z.x ⟨_, _, rfl, cf rfl (taken_spec ⟨_, rfl, ?_⟩)⟩
    have em2 : T2.mark = (((m + min 60 p2.length : Nat) : Int), 0) := by unfold TM.mark; rw [live2, if_neg (by simp), hm2]
    rw [em2]
    generalize hq2 : min 60 p2.length = m2 at hm2 K2 ⊢
    have hm260 : m2 ≤ 60 := by omega
    rw [wrap_i64 (by omega) (by omega)]
    refine cn (fun y => absurd (show ((m + m2 : Nat) : Int) = (m : Int) + (m2 : Int) by omega) y) fun _ => cn (fun y => absurd rfl y) fun _ => ?_
    unfold bolelaw06_TxnBack.k3
    refine Fill_spec L22.z.x K2 (L22.z.cells P3) (by omega) fun h26 F26 f26 g26 x26 => ⟨_, _, _, rfl, cf rfl ?_⟩
    have K3 := K2.fill p3
    have L26 := L22.call f26 g26 x26
    have hm3 : (fillT T2 p3).undo.length = m + m2 + min 60 p3.length := K3.undo
    have hb3 : (fillT T2 p3).back ((m + m2 : Nat) : Int) = (T2, 0) := back_fillI live2 hm2
    have live3 := K3.live
    clear x26
    generalize fillT T2 p3 = T3 at K3 L26 hm3 hb3 live3
    refine taken_spec ⟨_, rfl, ?_⟩
    generalize hq3 : min 60 p3.length = m3 at hm3 ⊢
    have hm360 : m3 ≤ 60 := by omega
    rw [wrap_i64 (n := ((m + m2 : Nat) : Int) + (m3 : Int)) (by omega) (by omega), wrap_i64 (n := ((m + m2 : Nat) : Int) + (m3 : Int) + 1) (by omega) (by omega), wrap_i64 (n := ((m + m2 : Nat) : Int) + 1) (by omega) (by omega), wrap_i64 (n := (m : Int) + 1) (by omega) (by omega)]
    refine back_step L26 (by omega) (back_bad live3 (.inr (by omega))) fun h28 L28 => ⟨_, rfl, cn (fun y => absurd rfl y) fun _ => ?_⟩
    refine back_step L28 (by omega) hb3 fun h29 L29 => ⟨_, rfl, cn (fun y => absurd rfl y) fun _ => ?_⟩
    refine back_step L29 (by omega) (back_bad live2 (.inr (by omega))) fun h30 L30 => ⟨_, rfl, cn (fun y => absurd rfl y) fun _ => ?_⟩
    refine back_step L30 (by omega) hb2 fun h31 L31 => ⟨_, rfl, cn (fun y => absurd rfl y) fun _ => ?_⟩
    refine back_step L31 (by omega) (back_bad live (.inr (by omega))) fun h32 L32 => ⟨_, rfl, cn (fun y => absurd rfl y) fun _ => ?_⟩
    refine back_step L32 (by omega) (back_bad live (.inl (by omega))) fun h33 L33 => ⟨_, rfl, cn (fun y => absurd rfl y) fun _ => ?_⟩
    unfold bolelaw06_TxnBack.k4
    refine Written_spec L33.z.x (by have := K1.room; omega) fun wa wl wc h35 f35 ewl sw => ⟨_, _, _, rfl, ?_⟩
    rw [K1.written] at sw
    have ewl2 : wl = (lsI iz 118).length := by have := sw.1; rw [List.length_map] at this; omega
    subst ewl2
    have L35 := L33.no f35
    refine sameInts_spec sw.cells L35.row (by omega) ⟨_, rfl, cf rfl ?_⟩
    refine ⟨fun i hh => ∃ j : Nat, i = j ∧ 98 ≤ j ∧ j ≤ 118 ∧ Lb h hh F26 (some ⟨tb, 0, none⟩) (some q) T h6.size nw la (lsI iz 118), fun i _ => (118 - i).toNat, ⟨98, rfl, Nat.le_refl _, by decide, L35⟩, ?_⟩
    rintro i h37 ⟨j, ej, j0, j1, L37⟩
    refine cd (fun hlt => ?_) fun hlt => ?_
    · have hj : j < 118 := by omega
      subst ej
      refine tread L37.z.x (K1.ok j hj) fun a38 l38 c38 h38 f38 s38 => ⟨_, _, _, _, rfl, cn (fun y => absurd rfl y) fun _ => ⟨_, s38, ⟨by omega, by omega⟩, _, row_getU (L37.no f38).r1 (by show j < _; omega), ?_⟩⟩
      have L38 := L37.no f38
      refine bl_spec fun b39 h39 f39 hb39 s39 => ⟨_, _, _, rfl, blk_eq (StrAt.fr f39 s38 fun _ _ y => y) s39.str (K1.data j j0 hj) ?_⟩
      rw [wrap_i64 (by omega) (by omega)]
      exact ⟨⟨j + 1, by omega, by omega, by omega, L38.no f39⟩, by show ((118 : Int) - ((j : Int) + 1)).toNat < ((118 : Int) - j).toNat; omega⟩
    · rw [wrap_i64 (by omega) (by omega)]
      exact ⟨⟨k + 1, F26, by omega, by omega, L37⟩, by show ((2 : Int) - (r + 1)).toNat < ((2 : Int) - r).toNat; omega⟩
  · obtain ⟨S, ec, lf⟩ := K1.commit edk
    refine Tm.Commit_spec (G.no L17.z.f) L17.z.x (by have := K1.room; omega) (by rw [edk]; show 0 < 100000000; decide) (by rw [edk]; show 0 < 100000000; decide) fun h40 F40 f40 g40 x40 => ⟨0, congrArg (fun r : TM × Int => Value.int .i64 r.2) ec, cn (fun y => absurd rfl y) fun _ => ?_⟩
    have x40 := Eq.mp (congrArg (fun r : TM × Int => Tx h40 F40 (some ⟨tb, 0, none⟩) (some q) r.1) ec) x40
    have L40 := L17.call f40 g40 x40
    refine ⟨fun i hh => ∃ j : Nat, i = j ∧ 98 ≤ j ∧ j ≤ 118 ∧ Lb h hh F40 (some ⟨tb, 0, none⟩) (some q) (TM.ended S) h6.size nw la (lsI iz 118), fun i _ => (118 - i).toNat, ⟨98, rfl, Nat.le_refl _, by decide, L40⟩, ?_⟩
    rintro i h41 ⟨j, ej, j0, j1, L41⟩
    refine cd (fun hlt => ?_) fun hlt => ?_
    · have hj : j < 118 := by omega
      subst ej
      refine dread L41.z.x lf.down (by omega) (by show (j : Int) < S.lasts.length; rw [lf.len]; omega) (lf.read j j0 hj) fun a38 l38 c38 h38 f38 s38 => ⟨_, _, _, _, rfl, cn (fun y => absurd rfl y) fun _ => ⟨_, s38, ⟨by omega, by omega⟩, _, row_getU (L41.no f38).r1 (by show j < _; omega), ?_⟩⟩
      have L38 := L41.no f38
      refine bl_spec fun b39 h39 f39 hb39 s39 => ⟨_, _, _, rfl, blk_eq (StrAt.fr f39 s38 fun _ _ y => y) s39.str rfl ?_⟩
      rw [wrap_i64 (by omega) (by omega)]
      exact ⟨⟨j + 1, by omega, by omega, by omega, L38.no f39⟩, by show ((118 : Int) - ((j : Int) + 1)).toNat < ((118 : Int) - j).toNat; omega⟩
    refine dsteps L41.z.x ⟨_, _, rfl, ?_⟩
    have ew : (TM.ended S).disk.writes = _ := lf.w
    have ef : (TM.ended S).disk.flushes = _ := lf.f
    rw [ew, ef]
    generalize (lsI iz 118).length = n at l118 ⊢
    refine ce (fun h0 => ?_) fun h0 => ?_
    · have : n = 0 := by omega
      subst this
      exact hK h41 L41.z.f
    · rw [if_neg (by omega), if_neg (by omega), wrap_i64 (n := 2 * (n : Int)) (by omega) (by omega), wrap_i64 (by omega) (by omega)]
      exact ce (fun _ => hK h41 L41.z.f) fun y => absurd rfl y
end Go.Proofs.YtpleolmalbdpnaaDoor.Txl
