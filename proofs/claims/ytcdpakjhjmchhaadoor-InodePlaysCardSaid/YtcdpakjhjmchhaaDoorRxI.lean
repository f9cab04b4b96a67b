/-
  THE DOCUMENT'S INODE TABLE (boleref11), in the document's own transaction.
-/
import Derived.Test.YtcdpakjhjmchhaaDoorRxC
import Derived.Test.YtcdpakjhjmchhaaDoorInC
import Derived.Test.YtcdpakjhjmchhaaDoorInP
namespace Go.Proofs.YtcdpakjhjmchhaaDoor.Rx
open Go Go.Proofs Go.Proofs.YtcdpakjhjmchhaaDoor.Wx Go.Proofs.YtcdpakjhjmchhaaDoor.Hp Go.Proofs.YtcdpakjhjmchhaaDoor.W Go.Proofs.YtcdpakjhjmchhaaDoor.Ad Go.Proofs.YtcdpakjhjmchhaaDoor.Tm Go.Proofs.YtcdpakjhjmchhaaDoor.Spc Go.Proofs.YtcdpakjhjmchhaaDoor.Re Go.Proofs.YtcdpakjhjmchhaaDoor.Ino
open Go.Proofs.YtcdpakjhjmchhaaDoor.Hd (ints)
open Go.Proofs.YtcdpakjhjmchhaaDoor.In (z15 mayR encR decA decOk ints_one ints_length ints_eq pairs15 cell15 getR_length encR_length z15_row)

theorem put_snoc : ∀ (ys : List Value) (X : List Value) (o : Nat) (y : Value), put X o (ys ++ [y]) = (put X o ys).set (o + ys.length) y
  | [], X, o, y => rfl
  | a :: r, X, o, y => by
    show put (X.set o a) (o + 1) (r ++ [y]) = (put (X.set o a) (o + 1) r).set _ y
    rw [put_snoc r, List.length_cons, show o + 1 + r.length = o + (r.length + 1) by omega]
theorem decA_may {bs : Txt} (e : (decA bs).2 = 0) : mayR (decA bs).1 = true := by
  unfold decA at e ⊢
  split at e
  · cases e
  · rename_i h1
    rw [if_neg h1]
    split at e
    · rename_i h2
      rw [if_pos h2]
      unfold decOk at h2
      rw [Bool.and_eq_true] at h2
      exact h2.2
    · cases e
theorem getM_may {T : TM} {g : G} {n : Int} (e : (getM T g n).2 = 0) : mayR (getM T g n).1 = true := by
  unfold getM at e ⊢
  split at e
  · cases e
  · rename_i h1
    rw [if_neg h1]
    split at e
    · rename_i h2; exact absurd e h2
    · rename_i h2
      rw [if_neg h2]; exact decA_may e
theorem Record_spec {g : G} {n : Int} {h : Heap} {K : Value → Heap → Prop} (ok : Cok g)
    (hK : ∀ h', Fr No h h' → K (if 1 ≤ n ∧ n < g.count then .tuple #[.int .i64 (rblk g n), .int .i64 (rat n), .int .i64 0] else .tuple #[.int .i64 0, .int .i64 0, .int .i64 110]) h') : C.boleref07_Record g.v n h K := by
  have c1 := ok.c
  have c2 := ok.ok.i
  refine boleref07_Record.ok (New.intro fun h2 n2 => ?_)
  have hK := hK h2 n2.fr
  refine cd (fun y => ?_) fun y => ⟨_, rda n2.rd rfl, cd (fun y2 => ?_) fun y2 => ?_⟩
  · rw [if_neg (by omega)] at hK; exact hK
  · rw [if_neg (by omega)] at hK; exact hK
  · rw [if_pos (by omega)] at hK
    unfold boleref07_Record.k1
    refine ⟨_, rda n2.rd rfl, ?_⟩
    have e1 : Int.tdiv n 8 = n / 8 := Int.tdiv_eq_ediv_of_nonneg (by omega)
    have e2 : Int.tmod n 8 = n % 8 := Int.tmod_eq_emod_of_nonneg (by omega)
    rw [e1, e2, wrap_i64 (n := n / 8) (by omega) (by omega), wrap_i64 (n := (g.inodes : Int) + n / 8) (by omega) (by omega), wrap_i64 (n := n % 8 * 64) (by omega) (by omega)]
    have e3 : n % 8 * 64 = ((rat n : Nat) : Int) := by unfold rat; omega
    have e4 : (g.inodes : Int) + n / 8 = rblk g n := by unfold rblk; omega
    rw [e3, e4]; exact hK
theorem RxS.readLen {h : Heap} {F : Nat → Prop} {r e : Option Addr} {T : TM} (x : RxS h F r e T) {i : Int} (e0 : (T.read i).2 = 0) : (T.read i).1.length = 512 := by
  obtain ⟨M, s, _⟩ := x; exact s.readLen e0
theorem Get_spec {h : Heap} {F : Nat → Prop} {r e : Option Addr} {T : TM} {g : G} {n : Int} {K : Value → Heap → Prop} (x : RxS h F r e T) (ok : Cok g)
    (hK : ∀ h', Fr No h h' → K (.tuple #[.agg ⟨ints (getM T g n).1⟩, .int .i64 (getM T g n).2]) h') : C.boleref11_Get r g.v n h K := by
  have ha := rat_le n
  refine boleref11_Get.ok (New.intro fun h2' n2 => New.intro fun h3 n3 => ⟨g.v, rfl, cellsAll ((n3.at_ n2.own.lt).trans n2.rd), Record_spec ok fun h4 f4 => ?_⟩)
  have s2 := n2.size
  have s3 := n3.size
  have f3 : Fr No h h3 := n2.fr.new n3
  have F4 := f3.no f4
  have z4 := f4.size
  have row : ∀ {h' : Heap}, Fr No h4 h' → Own h' h2'.size ∧ (rd h' h2'.size).length = 15 := fun f' => by
    have f34 : Fr No h3 _ := f4.no f'
    exact ⟨f34.own n3.own.lt (fun y => y) n3.own, by rw [f34.rd n3.own.lt fun y => y, n3.rd]; rfl⟩
  by_cases hn : 1 ≤ n ∧ n < g.count
  · have e0 : getM T g n = if (T.read (rblk g n)).2 ≠ 0 then (z15, (T.read (rblk g n)).2) else decA (((T.read (rblk g n)).1.drop (rat n)).take 64) := by unfold getM; rw [if_neg (fun y => y hn)]
    rw [e0] at hK
    rw [if_pos hn]
    refine ⟨_, _, _, rfl, cn (fun y => absurd rfl y) fun _ => Read_spec (x.no F4) fun a l c h6 f6 hl s6 => ⟨_, _, _, _, rfl, cn (fun he => ?_) fun he => ?_⟩⟩
    · rw [if_pos he] at hK
      obtain ⟨w, l15⟩ := row f6
      exact z15_row (h3 := h) (F4.no f6) (by omega) w l15 hK
    · rw [if_neg (fun y => y he)] at hK
      have hlen : (T.read (rblk g n)).1.length = 512 := x.readLen he
      have hc := s6.le
      rw [wrap_i64 (by omega) (by omega)]
      refine ⟨⟨by omega, by omega, by omega⟩, ?_⟩
      have B6 := StrAt.cut s6.str hc (i := (rat n : Int).toNat) (j := ((rat n : Int) + 64).toNat) (by omega) (by omega)
      rw [show ((rat n : Int) + 64).toNat - (rat n : Int).toNat = 64 by omega] at B6 ⊢
      refine In.rDecode_spec B6 (by omega) fun h8 f8 => ⟨_, _, rfl, ?_⟩
      rw [show (rat n : Int).toNat = rat n by omega]
      obtain ⟨w, l15⟩ := row (f6.no f8)
      refine PutRow.intro w (by rw [ints_length, decA_length]) (ints_one _) (by omega) fun h9 d9 => ⟨_, by rw [ints_length]; exact decA_length _, cellsAll ?_, hK h9 (((F4.no f6).no f8).did d9 fun hl => by omega)⟩
      rw [d9.rd]; exact put_all _ _ (by rw [ints_length, decA_length, l15])
  · have e0 : getM T g n = (z15, 110) := by unfold getM; rw [if_pos hn]
    rw [e0] at hK
    rw [if_neg hn]
    obtain ⟨w, l15⟩ := row (Fr.refl _ _)
    exact ⟨_, _, _, rfl, cn (fun _ => z15_row (h3 := h) F4 (by omega) w l15 hK) fun y => absurd (show (110 : Int) = 0 from y) (by decide)⟩
theorem Put_spec {h : Heap} {F : Nat → Prop} {r e : Option Addr} {T : TM} {g : G} {n : Int} {R : List Int} {K : Value → Heap → Prop} (x : RxS h F r e T) (hN : 98 ≤ T.N) (ok : Cok g) (hR : R.length = 15) (hu : T.undo.length < 1000000000)
    (hK : ∀ h' F', Fr F h h' → Gw h F h' F' → RxS h' F' r e (putM T g n R).1 → K (.int .i64 (putM T g n R).2) h') : C.boleref11_Put r g.v n (ints R) h K := by
  have ha := rat_le n
  have same : ∀ e h', Fr No h h' → putM T g n R = (T, e) → K (.int .i64 e) h' := fun e h' f e0 => by
    rw [e0] at hK
    exact hK h' F (f.mono fun _ _ y => y.elim) (Gw.refl f.size fun b hb => x.lt hb) (x.no f)
  refine boleref11_Put.ok (New.intro fun h2' n2 => New.intro fun h3 n3 => ⟨g.v, rfl, cellsAll ((n3.at_ n2.own.lt).trans n2.rd), Record_spec ok fun h4 f4 => ?_⟩)
  have s2 := n2.size
  have s3 := n3.size
  have F4 := (n2.fr.new n3).no f4
  have z4 := f4.size
  by_cases hn : 1 ≤ n ∧ n < g.count
  · rw [if_pos hn]
    refine ⟨_, _, _, rfl, cn (fun y => absurd rfl y) fun _ => ⟨ints R, by rw [ints_length, hR], cellsAll ((f4.rd (by omega) fun y => y).trans n3.rd), In.rEncode_spec hR (fun hm h5 f5 => ⟨_, _, _, _, rfl, cn (fun _ => ?_) fun y => absurd (show (111 : Int) = 0 from y) (by decide)⟩) fun hm ea ec h5 f5 s5 => ⟨_, _, _, _, rfl, cn (fun y => absurd rfl y) fun _ => ?_⟩⟩⟩
    · exact same _ h5 (F4.no f5) (by unfold putM; rw [if_neg (fun y => y hn), if_pos hm])
    have z5 := f5.size
    have F5 := F4.no f5
    refine Read_spec (x.no F5) fun a l c h6 f6 hl s6 => ⟨_, _, _, _, rfl, cn (fun he => ?_) fun he => ?_⟩
    · exact same _ h6 (F5.no f6) (by unfold putM; rw [if_neg (fun y => y hn), if_neg (by rw [hm]; simp), if_pos he])
    have hlen : (T.read (rblk g n)).1.length = 512 := x.readLen he
    have e0 : putM T g n R = T.write (rblk g n) (putU (T.read (rblk g n)).1 (rat n) (encR R)) := by unfold putM; rw [if_neg (fun y => y hn), if_neg (by rw [hm]; simp), if_neg (fun y => y he)]
    rw [e0] at hK
    generalize T.read (rblk g n) = rd0 at hl s6 hlen hK
    obtain ⟨bs, er⟩ := rd0
    simp only at hl s6 hlen hK
    obtain ⟨p, ep, _⟩ := s6.get (by omega)
    subst ep
    obtain ⟨pb, po, sp⟩ := p
    have esp : sp = none := s6.2.1
    subst esp
    have z6 := f6.size
    have hc := s6.le
    have F6 := F5.no f6
    have le := encR_length hR
    have hfrom : h5.size ≤ pb := s6.2.2.1
    have e6 : Sl h6 1 ea 64 ec ((encR R).map bv) (fun b => From h4.size b ∧ b < h5.size) := (sl_rng s5).fr f6 fun _ _ _ y => y
    refine ⟨fun i hh => ∃ j : Nat, i = j ∧ j ≤ 64 ∧ Fr (fun b => b = pb) h6 hh ∧ Sl hh 1 (some ⟨pb, po, none⟩) l c (put (bs.map bv) (rat n) (((encR R).take j).map bv)) (From h5.size), fun i _ => ((64 : Int) - i).toNat,
      ⟨0, rfl, by decide, Fr.refl _ _, by rw [List.take_zero]; exact s6⟩, ?_⟩
    rintro i h7 ⟨j, rfl, hj, f7, s7⟩
    have z7 := f7.size
    refine cd (fun hl2 => ?_) fun hl2 => ?_
    · have hj' : j < (encR R).length := by omega
      have s7e := e6.fr f7 fun b _ y y2 => by have y := y.2; have y2 : b = pb := y2; omega
      obtain ⟨q, eq, cc⟩ := s7e.get (by decide)
      have ew : IntKind.wrap .i64 ((rat n : Int) + j) = ((rat n + j : Nat) : Int) := by rw [wrap_i64 (by omega) (by omega)]; omega
      have ew2 : IntKind.wrap .i64 ((j : Int) + 1) = ((j + 1 : Nat) : Int) := by rw [wrap_i64 (by omega) (by omega)]; omega
      rw [ew, ew2, Int.toNat_natCast, Int.toNat_natCast]
      refine ⟨⟨by omega, by omega⟩, oe eq ⟨((encR R)[j].toNat : Int), Cells.cell cc (by rw [List.getElem?_map, List.getElem?_eq_getElem hj']; rfl), ⟨by omega, by omega⟩, os ?_⟩⟩
      obtain ⟨w7, l7⟩ := s7.wr
      refine Put.add w7 (by omega) fun h8 d8 => ⟨⟨j + 1, rfl, by omega, f7.did d8 fun _ => rfl, ?_⟩, by show ((64 : Int) - ((j + 1 : Nat) : Int)).toNat < ((64 : Int) - (j : Int)).toNat; omega⟩
      rw [take_snoc _ _ hj', List.map_append, List.map_singleton, put_snoc, List.length_map, List.length_take, Nat.min_eq_left (by omega)]
      exact s7.putAt (j := rat n + j) (new := [bv (encR R)[j]]) (by rw [List.length_singleton]; omega) d8
    · have ej : j = 64 := by omega
      subst ej
      rw [List.take_of_length_le (by omega), putU_put (by rw [hlen, le]; omega)] at s7
      have F7 : Fr No h h7 := F6.trans f7 fun b hb y => by have y : b = pb := y; omega
      refine Write_spec (x.no F7) hN s7.str hu fun h9 F9 f9 g9 x9 => ⟨_, rfl, hK h9 F9 ((F7.mono fun _ _ y => y.elim).trans f9 fun _ _ y => y) ((Gw.refl F7.size fun b hb => x.lt hb).trans g9 F7.size) x9⟩
  · rw [if_neg hn]
    exact ⟨_, _, _, rfl, cn (fun _ => same _ h4 F4 (by unfold putM; rw [if_pos hn])) fun y => absurd (show (110 : Int) = 0 from y) (by decide)⟩
theorem Take_spec {h : Heap} {F : Nat → Prop} {r e : Option Addr} {T : TM} {g : G} {R : List Int} {K : Value → Heap → Prop} (x : RxS h F r e T) (hN : 98 ≤ T.N) (ok : Cok g) (hR : R.length = 15) (hu : T.undo.length < 1000000000)
    (hK : ∀ h' F', Fr F h h' → Gw h F h' F' → RxS h' F' r e (takeI T g R).1 → K (.tuple #[.int .i64 (takeI T g R).2.1, .int .i64 (takeI T g R).2.2]) h') : C.boleref11_Take r g.v (ints R) h K := by
  have hc := ok.c
  have same : ∀ a e h', Fr No h h' → takeI T g R = (T, a, e) → K (.tuple #[.int .i64 a, .int .i64 e]) h' := fun a e h' f e0 => by
    rw [e0] at hK
    exact hK h' F (f.mono fun _ _ y => y.elim) (Gw.refl f.size fun b hb => x.lt hb) (x.no f)
  refine boleref11_Take.ok (New.intro fun h2' n2 => New.intro fun h3 n3 => ⟨ints R, by rw [ints_length, hR], cellsAll n3.rd, In.rMay_spec hR fun h4 f4 => ⟨_, rfl, cnot ?_⟩⟩)
  have s2 := n2.size
  have s3 := n3.size
  have F4 := (n2.fr.new n3).no f4
  have z4 := f4.size
  have rg : rd h4 h.size = g.v := (f4.rd (by omega) fun y => y).trans ((n3.at_ n2.own.lt).trans n2.rd)
  have rx : rd h4 h2'.size = ints R := (f4.rd (by omega) fun y => y).trans n3.rd
  cases hm : mayR R with
  | false => exact cf rfl (same _ _ h4 F4 (by unfold takeI; rw [if_pos (.inl hm)]))
  | true =>
    refine ct rfl ⟨_, cell15 rx (by omega), ce (fun e => same _ _ h4 F4 (by unfold takeI; rw [if_pos (.inr e)])) fun hk0 => ?_⟩
    have e0 : takeI T g R = goI T g R (g.count - 1) 1 := by unfold takeI; rw [if_neg]; rintro (y | y); rw [hm] at y; cases y; exact hk0 y
    unfold boleref11_Take.k1
    refine ⟨fun n hh => 1 ≤ n ∧ (n - 1).toNat ≤ g.count - 1 ∧ Fr No h4 hh ∧ goI T g R (g.count - n.toNat) n = goI T g R (g.count - 1) 1, fun n _ => ((g.count : Int) - n).toNat, ⟨by decide, by show 0 ≤ _; omega, Fr.refl _ _, rfl⟩, ?_⟩
    rintro n h6 ⟨n1, n2', f6, eg⟩
    have F6 := F4.no f6
    have rg6 : rd h6 h.size = g.v := (f6.rd (by omega) fun y => y).trans rg
    refine ⟨_, rda rg6 rfl, cd (fun hn => ?_) fun hn => ?_⟩
    · refine ⟨g.v, rfl, cellsAll rg6, Get_spec (x.no F6) ok fun h7 f7 => ⟨_, _, rfl, NewRow.intro (by rw [ints_length, getM_length]) (ints_one _) rfl fun h9 n9 => ?_⟩⟩
      have F9 := (F6.no f7).new n9
      obtain ⟨k, ek⟩ : ∃ k, g.count - n.toNat = k + 1 := ⟨g.count - n.toNat - 1, by omega⟩
      rw [ek] at eg
      have eg' : (if (getM T g n).2 ≠ 0 then (T, 0, (getM T g n).2) else if (getM T g n).1 = z15 then if (putM T g n R).2 ≠ 0 then ((putM T g n R).1, 0, (putM T g n R).2) else ((putM T g n R).1, n, 0) else goI T g R k (n + 1)) = goI T g R (g.count - 1) 1 := eg
      have z7 := f7.size
      have z6 := f6.size
      have q : ∀ b, b < h4.size → rd h9 b = rd h4 b := fun b hb => (n9.at_ (by omega)).trans ((f7.rd (by omega) fun y => y).trans (f6.rd hb fun y => y))
      refine cn (fun he => ?_) fun he => ⟨_, cell15 n9.rd (by rw [getM_length]; decide), ?_⟩
      · rw [if_pos he] at eg'
        exact same _ _ h9 F9 (e0.trans eg'.symm)
      rw [if_neg (fun y => y he)] at eg'
      have kz := kind0 (getM_may he)
      refine cn (fun hz => ?_) fun hz => ?_
      · rw [if_neg fun y => hz (kz.mpr y)] at eg'
        rw [wrap_i64 (by omega) (by omega)]
        exact ⟨⟨by omega, by omega, (f6.no f7).new n9, by rw [show g.count - (n + 1).toNat = k by omega]; exact eg'⟩, by show ((g.count : Int) - (n + 1)).toNat < ((g.count : Int) - n).toNat; omega⟩
      · rw [if_pos (kz.mp hz)] at eg'
        refine ⟨g.v, rfl, cellsAll ((q _ (by omega)).trans rg), ints R, by rw [ints_length, hR], cellsAll ((q _ (by omega)).trans rx), Put_spec (x.no F9) hN ok hR hu fun h10 F10 f10 g10 x10 => ⟨_, rfl, ?_⟩⟩
        have fall : Fr F h h10 := (F9.mono fun _ _ y => y.elim).trans f10 fun _ _ y => y
        have gall : Gw h F h10 F10 := (Gw.refl F9.size fun b hb => x.lt hb).trans g10 F9.size
        refine cn (fun hp => ?_) fun hp => ?_
        · rw [if_pos hp] at eg'
          rw [e0, ← eg'] at hK
          exact hK h10 F10 fall gall x10
        · rw [if_neg (fun y => y hp)] at eg'
          rw [e0, ← eg'] at hK
          exact hK h10 F10 fall gall x10
    · rw [show g.count - n.toNat = 0 by omega] at eg
      exact same _ _ h6 F6 (e0.trans eg.symm)
theorem Free_spec {h : Heap} {F : Nat → Prop} {r e : Option Addr} {T : TM} {g : G} {K : Value → Heap → Prop} (x : RxS h F r e T) (ok : Cok g)
    (hK : ∀ h', Fr No h h' → K (.tuple #[.int .i64 (freeI T g (g.count - 1) 1 0).1, .int .i64 (freeI T g (g.count - 1) 1 0).2]) h') : C.boleref11_Free r g.v h K := by
  have hc := ok.c
  refine boleref11_Free.ok (New.intro fun h2' n2 => ?_)
  refine ⟨fun many n hh => 1 ≤ n ∧ 0 ≤ many ∧ many < n ∧ (n - 1).toNat ≤ g.count - 1 ∧ Fr No h2' hh ∧ freeI T g (g.count - n.toNat) n many = freeI T g (g.count - 1) 1 0, fun _ n _ => ((g.count : Int) - n).toNat, ⟨by decide, by decide, by decide, by show 0 ≤ _; omega, Fr.refl _ _, rfl⟩, ?_⟩
  rintro many n h3 ⟨n1, m0, m1, n2', f3, eg⟩
  have rg : rd h3 h.size = g.v := (f3.rd n2.own.lt fun y => y).trans n2.rd
  have F3 := n2.fr.no f3
  refine ⟨_, rda rg rfl, cd (fun hn => ?_) fun hn => ?_⟩
  · refine ⟨g.v, rfl, cellsAll rg, Get_spec (x.no F3) ok fun h4 f4 => ⟨_, _, rfl, NewRow.intro (by rw [ints_length, getM_length]) (ints_one _) rfl fun h6 n6 => ?_⟩⟩
    have F6 := (F3.no f4).new n6
    obtain ⟨k, ek⟩ : ∃ k, g.count - n.toNat = k + 1 := ⟨g.count - n.toNat - 1, by omega⟩
    rw [ek] at eg
    have eg' : (if (getM T g n).2 ≠ 0 then (0, (getM T g n).2) else freeI T g k (n + 1) (if (getM T g n).1 = z15 then many + 1 else many)) = freeI T g (g.count - 1) 1 0 := eg
    refine cn (fun he => ?_) fun he => ⟨_, cell15 n6.rd (by rw [getM_length]; decide), ?_⟩
    · rw [if_pos he] at eg'
      rw [← eg'] at hK
      exact hK h6 F6
    rw [if_neg (fun y => y he)] at eg'
    have kz := kind0 (getM_may he)
    rw [wrap_i64 (n := n + 1) (by omega) (by omega), wrap_i64 (n := many + 1) (by omega) (by omega)]
    refine ce (fun hz => ⟨⟨by omega, by omega, by omega, by omega, (f3.no f4).new n6, ?_⟩, by show ((g.count : Int) - (n + 1)).toNat < ((g.count : Int) - n).toNat; omega⟩) fun hz => ⟨⟨by omega, by omega, by omega, by omega, (f3.no f4).new n6, ?_⟩, by show ((g.count : Int) - (n + 1)).toNat < ((g.count : Int) - n).toNat; omega⟩
    · rw [if_pos (kz.mp hz)] at eg'
      rw [show g.count - (n + 1).toNat = k by omega]; exact eg'
    · rw [if_neg fun y => hz (kz.mpr y)] at eg'
      rw [show g.count - (n + 1).toNat = k by omega]; exact eg'
  · rw [show g.count - n.toNat = 0 by omega] at eg
    rw [← eg] at hK
    exact hK h3 F3
end Go.Proofs.YtcdpakjhjmchhaaDoor.Rx
