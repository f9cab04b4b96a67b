/-
  bolelaw10: BmapCuts, walked.
-/
import Derived.Test.YtcdpakjhjmchhaaGreatDoorBnK
namespace Go.Proofs.YtcdpakjhjmchhaaGreatDoor.Bm
open Go Go.Proofs Go.Proofs.YtcdpakjhjmchhaaGreatDoor.Wx Go.Proofs.YtcdpakjhjmchhaaGreatDoor.Hp Go.Proofs.YtcdpakjhjmchhaaGreatDoor.W Go.Proofs.YtcdpakjhjmchhaaGreatDoor.Ad Go.Proofs.YtcdpakjhjmchhaaGreatDoor.Tm Go.Proofs.YtcdpakjhjmchhaaGreatDoor.Bt Go.Proofs.YtcdpakjhjmchhaaGreatDoor.Spc Go.Proofs.YtcdpakjhjmchhaaGreatDoor.Re Go.Proofs.YtcdpakjhjmchhaaGreatDoor.Av Go.Proofs.YtcdpakjhjmchhaaGreatDoor.Rm
open Go.Proofs.YtcdpakjhjmchhaaGreatDoor.Hd (ints)
open Go.Proofs.YtcdpakjhjmchhaaGreatDoor.In (Glo ints_length ints_one)

theorem written_mem {n : Nat} {Z : Nat → Txt} {T : TM} (a : Av n Z T) : ∀ v ∈ T.written, 98 ≤ v ∧ v < n := fun v hv => a.rng v ((List.mergeSort_perm _ _).mem_iff.mp hv)
theorem cuts_k5 {n u low high : Nat} {h1 h4 h8 h10 h24 h40 : Heap} {t d : Option Addr} {F : Nat → Prop} {T T1 : TM} {Z Z1 : Nat → Txt} {R R1 : List Int} {has : MapI} {W : List Int} {a1 ba : Option Addr} {K : Value → Heap → Prop} (gl : Glo h1) (dm : Dim n) (C : Lc n h1 h4.size h8.size h10.size t d h40 F T1 R has) (a : Av n Z T) (w : Wf n Z R) (tg : Tight Z R) (H : Has Z R has) (un : T.undo.length ≤ u) (un1 : T1.undo.length ≤ u) (hu : u ≤ 1000000)
    (x1 : Ext T T1) (av1 : Av n Z1 T1) (c1 : Cutd n low Z R Z1 R1) (hle : low ≤ high) (hhi : high < 16522) (r1 : rd h40 h24.size = ints R1) (nF : ¬ F h24.size) (hW : ∀ v ∈ W, 98 ≤ v ∧ v < n) (hl : W.length ≤ 140737488355328)
    (QA QB : Nat → Prop) (la ca lb cb : Nat) (s1 : Sl h40 1 a1 la ca (ints W) QA) (sb : Sl h40 1 ba lb cb (W.map (strV Z1)) QB) (hQ : ∀ b, QA b ∨ QB b → ¬ F b) (hK : ∀ h', Fr No h1 h' → K (.bool true) h') :
    bolelaw10_BmapCuts.k5 h4 t h8 h10 (low : Int) (high : Int) ((T.undo.length : Nat) : Int) h24 a1 W.length ba W.length h40 K := by
  have gl1 := gl.lt
  have l24 : h24.size < h40.size := rd_lt (o := 0) (v := .int .i64 (R1.getD 0 0)) (by rw [r1]; exact ints_at c1.w.rl (by decide))
  unfold bolelaw10_BmapCuts.k5
  refine Back_spec C.x (by omega) ?_
  rw [x1.back a.live]
  intro h41 f41 x41
  have x41 : Tx h41 F t d T := x41
  refine ⟨_, rfl, ?_⟩
  have C41 := C.call f41 (Gw.refl f41.size fun b hb => C.x.lt hb) x41
  have g0 : ∀ {F' : Nat → Prop}, (∀ b, F' b → h1.size ≤ b) → ∀ b, b < 1 → ¬ F' b := fun h b hb y => by have := h b y; omega
  refine ⟨_, rfl, cellsAll C41.rg, _, by rw [ints_length, w.rl], cellsAll C41.rx, ?_⟩
  have z41 := f41.size
  rcases cut_ok (k := high) dm a w tg (by omega) with ⟨e, _⟩ | ⟨T2, R2, Z2, e, a2, c2, _, _, _⟩
  · have un2 := cutM_un (T := T) (g := geoN n) (R := z15) (k := (low : Int))
    refine Cut_as (gl.no C41.fr) (geoN_ok dm.hi) C41.x a.live w.rl (g0 C41.fl) (by omega) e fun h42 F42 f42 g42 x42 => ⟨_, _, rfl, NewRow.intro rfl (ints_one _) rfl fun h44 n44 => ?_⟩
    have C44 := (C41.call f42 g42 x42).no n44.fr
    refine ⟨_, rfl, cellsAll C44.rg, _, rfl, cellsAll n44.rd, ?_⟩
    have w15 : Wf n Z z15 := wf_nil rfl fun i _ _ => z15_get i
    rcases cut_ok (k := low) dm a w15 (tight_nil fun i _ _ => z15_get i) (by omega) with ⟨_, _, x, hx, h0, _⟩ | ⟨T3, R3, Z3, e3, _, c3, _, _, _⟩
    · exact absurd (num_nil (fun i _ _ => z15_get i) x hx) h0
    · refine Cut_as (gl.no C44.fr) (geoN_ok dm.hi) C44.x a.live rfl (g0 C44.fl) (by omega) e3 fun h45 F45 f45 g45 x45 => ⟨_, _, rfl, NewRow.intro (by rw [ints_length, c3.w.rl]) (ints_one _) rfl fun h47 n47 => ?_⟩
      have C47 := (C44.call f45 g45 x45).no n47.fr
      exact num_spec ⟨_, rfl, cn (fun y => absurd rfl y) fun _ => num_spec ⟨_, rfl, cn (fun _ => num_spec ⟨_, rfl, ce (fun _ => hK h47 C47.fr) fun y => absurd rfl y⟩) fun y => absurd y (by decide)⟩⟩
  have un2 := cutM_un (T := T) (g := geoN n) (R := R) (k := (high : Int))
  rw [e] at un2
  have un2 : T2.undo.length ≤ T.undo.length + 16710 := un2
  refine Cut_as (gl.no C41.fr) (geoN_ok dm.hi) C41.x a.live w.rl (g0 C41.fl) (by omega) e fun h42 F42 f42 g42 x42 => ⟨_, _, rfl, NewRow.intro (by rw [ints_length, c2.w.rl]) (ints_one _) rfl fun h44 n44 => ?_⟩
  have C44 := (C41.call f42 g42 x42).no n44.fr
  have z42 := f42.size
  have z44 := n44.size
  refine ⟨_, rfl, cellsAll C44.rg, _, by rw [ints_length, c2.w.rl], cellsAll n44.rd, ?_⟩
  rcases cut_ok (k := low) dm a2 c2.w c2.tg (by omega) with ⟨e3, _⟩ | ⟨T3, R3, Z3, e3, a3, c3, _, _, _⟩
  · refine Cut_as (gl.no C44.fr) (geoN_ok dm.hi) C44.x a2.live c2.w.rl (g0 C44.fl) (by omega) e3 fun h45 F45 f45 g45 x45 => ⟨_, _, rfl, NewRow.intro rfl (ints_one _) rfl fun h47 n47 => ?_⟩
    have C47 := (C44.call f45 g45 x45).no n47.fr
    exact num_spec ⟨_, rfl, cn (fun y => absurd rfl y) fun _ => num_spec ⟨_, rfl, cn (fun y => absurd rfl y) fun _ => num_spec ⟨_, rfl, cn (fun _ => num_spec ⟨_, rfl, ce (fun y => absurd y (by decide)) fun _ => num_spec ⟨_, rfl, hK h47 C47.fr⟩⟩) fun y => absurd y (by decide)⟩⟩⟩
  refine Cut_as (gl.no C44.fr) (geoN_ok dm.hi) C44.x a2.live c2.w.rl (g0 C44.fl) (by omega) e3 fun h45 F45 f45 g45 x45 => ⟨_, _, rfl, NewRow.intro (by rw [ints_length, c3.w.rl]) (ints_one _) rfl fun h47 n47 => ?_⟩
  have C47 := (C44.call f45 g45 x45).no n47.fr
  have z45 := f45.size
  have z47 := n47.size
  refine num_spec ⟨_, rfl, cn (fun y => absurd rfl y) fun _ => num_spec ⟨_, rfl, cn (fun y => absurd rfl y) fun _ => num_spec ⟨_, rfl, cn (fun y => absurd rfl y) fun _ => ?_⟩⟩⟩
  obtain ⟨nums, bits⟩ := cut_two c1 c2 c3 hle
  have eR : R3 = R1 := rec_ext c3.w c1.w (fun i hi => by rw [c3.head i hi, c2.head i hi, c1.head i hi]) fun s hs _ => nums s hs
  -- what lay there before
  have o42 : ∀ b, b < h41.size → F42 b → F b := fun b hb y => (g42.old b hb).mp y
  have keep : ∀ b, b < h40.size → ¬ F b → h47[b]? = h40[b]? := fun b hb hn =>
    (n47.fr.same b (by omega) fun y => y).trans ((f45.same b (by omega) fun y => hn (o42 b (by omega) y)).trans ((n44.fr.same b (by omega) fun y => y).trans ((f42.same b (by omega) hn).trans (f41.same b hb hn))))
  have kfr : ∀ Q : Nat → Prop, (∀ b, Q b → ¬ F b) → Fr (fun b => ¬ Q b) h40 h47 := fun Q hq => ⟨by omega, fun b hb y => keep b hb (hq b (Classical.byContradiction fun z => y z))⟩
  have r1' : rd h47 h24.size = ints R1 := by rw [← r1]; simp only [Hp.rd, keep _ l24 nF]
  have r3' : rd h47 h45.size = ints R1 := by rw [n47.rd, eR]
  have e15 := eq15 c1.w.rl
  refine ⟨_, by rw [ints_length, c1.w.rl], cellsAll r3', _, by rw [ints_length, c1.w.rl], cellsAll r1', e15.1, ?_⟩
  rw [e15.2]
  have sA : SlCells h47 a1 (ints W) := (s1.fr (kfr QA fun b hb => hQ b (.inl hb)) fun b _ hb y => y hb).cells
  have sB : SlCells h47 ba (W.map (strV Z1)) := (sb.fr (kfr QB fun b hb => hQ b (.inr hb)) fun b _ hb y => y hb).cells
  refine cf rfl (cuts_k6 (R3 := R3) gl dm C47.fr C47.rg (by rw [eR]; exact r3') C47.M C47.x a3 c3.w c3.tg w H hW hl sA sB av1.len bits (fun s hs => ?_) (fun s hs h0 => ?_) hK)
  · have hn : s < nS := by unfold nS; omega
    rw [nums s hn]
    by_cases hlo : s < low
    · rw [if_pos hlo, c1.kept s hn fun y => by rw [dk_data hs] at y; omega]
    · rw [if_neg hlo, c1.gone s hn ((dk_data hs).mpr (by omega))]
  · have hn : s < nS := by unfold nS; omega
    have rs := w.rng s hn h0
    have hm := (dm.map rs.2.1).2.1
    rw [bits _ hm]
    by_cases hlo : s < low
    · rw [decide_eq_true hlo]
      have ek := c1.kept s hn fun y => by rw [dk_data hs] at y; omega
      have := (c1.w.rng s hn (by rw [ek]; exact h0)).2.2
      rw [ek] at this; exact this
    · rw [decide_eq_false hlo]
      cases hb : Av.bit Z1 (num Z R s) with
      | false => rfl
      | true => exact absurd rfl (((c1.bits _ hm).mp hb).2 s hn ((dk_data hs).mpr (by omega)) h0)
theorem cuts_k4 {n u low high : Nat} {h1 h4 h8 h10 h21 : Heap} {t d : Option Addr} {F : Nat → Prop} {T : TM} {Z : Nat → Txt} {R : List Int} {has : MapI} {K : Value → Heap → Prop} (gl : Glo h1) (dm : Dim n) (hn : n < 5000) (X : Lx n h1 h4.size h8.size h10.size t d h21 F T Z R has u) (hu : u ≤ 100000) (hle : low ≤ high) (hhi : high < 16522) (hK : ∀ h', Fr No h1 h' → K (.bool true) h') :
    bolelaw10_BmapCuts.k4 h4 t h8 h10 h21 (low : Int) (high : Int) K := by
  have gl1 := gl.lt
  have un := X.un
  unfold bolelaw10_BmapCuts.k4
  have em : T.mark = (((T.undo.length : Nat) : Int), 0) := by unfold TM.mark; rw [X.a.live, if_neg (by simp)]
  refine Mark_spec X.x ⟨_, _, rfl, ?_⟩
  rw [em]
  have g0 : ∀ {F' : Nat → Prop}, (∀ b, F' b → h1.size ≤ b) → ∀ b, b < 1 → ¬ F' b := fun h b hb y => by have := h b y; omega
  refine num_spec ⟨_, rfl, cn (fun y => absurd rfl y) fun _ => ⟨_, rfl, cellsAll X.rg, _, by rw [ints_length, X.w.rl], cellsAll X.rx, ?_⟩⟩
  rcases cut_ok (k := low) dm X.a X.w X.tg (by omega) with ⟨e, _⟩ | ⟨T1, R1, Z1, e, a1, c1, x1, _, _⟩
  · refine Cut_as (gl.no X.fr) (geoN_ok dm.hi) X.x X.a.live X.w.rl (g0 X.fl) (by omega) e fun h24 F24 f24 g24 x24 => ⟨_, _, rfl, NewRow.intro rfl (ints_one _) rfl fun h26 n26 => num_spec ⟨_, rfl, cn (fun _ => num_spec ⟨_, rfl, ?_⟩) fun y => absurd y (by decide)⟩⟩
    exact hK h26 ((X.same f24 g24 x24).no n26.fr).fr
  have un1 := cutM_un (T := T) (g := geoN n) (R := R) (k := (low : Int))
  rw [e] at un1
  have un1 : T1.undo.length ≤ T.undo.length + 16710 := un1
  refine Cut_as (gl.no X.fr) (geoN_ok dm.hi) X.x X.a.live X.w.rl (g0 X.fl) (by omega) e fun h24 F24 f24 g24 x24 => ⟨_, _, rfl, NewRow.intro (by rw [ints_length, c1.w.rl]) (ints_one _) rfl fun h26 n26 => num_spec ⟨_, rfl, cn (fun y => absurd rfl y) fun _ => ?_⟩⟩
  have C26 := (X.c.call f24 g24 x24).no n26.fr
  have z24 := f24.size
  have z26 := n26.size
  have F24lt : ∀ b, F24 b → b < h24.size := fun b => x24.lt
  have hpl := Bm.Av.put_le a1
  refine Written_spec C26.x (by omega) fun sa sl sc h29 f29 el s => ⟨_, _, _, rfl, ?_⟩
  have hwl : T1.written.length = T1.put.length := by
    have := s.1
    rw [List.length_map, Nat.mul_one] at this
    omega
  have el : sl = T1.written.length := by omega
  subst el
  have hW := written_mem a1
  have C29 := C26.no f29
  have z29 := f29.size
  refine ⟨fun ba bl bc i hh => ∃ j : Nat, i = j ∧ bl = j ∧ j ≤ T1.written.length ∧ Fr No h29 hh ∧ Sl hh 1 ba j bc ((T1.written.take j).map (strV Z1)) (From h29.size), fun _ _ _ i _ => ((T1.written.length : Int) - i).toNat, ⟨0, rfl, rfl, Nat.zero_le _, Fr.refl _ _, Sl.nil _ _ _⟩, ?_⟩
  intro ba bl bc i h30 hI
  obtain ⟨j, ei, eb, hj, f30, sb⟩ := hI
  subst ei
  have eb := eb.symm
  subst eb
  refine cd (fun hlt => ?_) fun hlt => ?_
  · have hj' : j < T1.written.length := by omega
    obtain ⟨p, ep, cp⟩ := Hd.ints_get (s.fr f30 fun _ _ _ y => y).cells hj'
    rw [Int.toNat_natCast]
    have hv := hW _ (List.getElem_mem hj')
    have ev : T1.written[j] = ((T1.written[j].toNat : Nat) : Int) := by omega
    have er := a1.z T1.written[j].toNat (by omega)
    rw [← ev] at er
    refine ⟨⟨by omega, hlt⟩, Tm.oe ep ⟨_, cp, Tm.Read_spec (C29.x.no f30) fun ra rl rcc h31 f31 el31 s31 => ⟨_, _, _, _, rfl, ?_⟩⟩⟩
    rw [er] at s31 el31
    have l5 := a1.len T1.written[j].toNat (by omega)
    refine ⟨Z1 T1.written[j].toNat, s31.str, New.intro fun h32 n32 => ⟨[strV Z1 T1.written[j]], rfl, cellsAll n32.rd, fun v hv => by rw [List.mem_singleton.mp hv]; rfl, ?_⟩⟩
    have z31 := f31.size
    have z30 := f30.size
    have z32 := n32.size
    refine append_own (elem := ti9) ((sb.fr f31 fun _ _ _ y => y).fr n32.fr fun _ _ _ y => y) rfl rfl (by show (j + 1) * 16 ≤ _; omega) (by omega) fun a' c' h33 f33 s33 => ?_
    rw [wrap_i64 (n := (j : Int) + 1) (by omega) (by omega)]
    refine ⟨⟨j + 1, by omega, rfl, hj', ((f30.no f31).new n32).trans f33 fun b hb y => by have y : h29.size ≤ b := y; omega, ?_⟩, falls hlt⟩
    rw [take_snoc _ _ hj', List.map_append]
    exact s33.mono fun b hb => hb.elim id fun y => by show h29.size ≤ b; omega
  have ej : j = T1.written.length := by omega
  subst ej
  rw [List.take_length] at sb
  have C30 := C29.no f30
  have z30 := f30.size
  have r1_30 : rd h30 h24.size = ints R1 := (f30.rd (by omega) fun y => y).trans ((f29.rd (by omega) fun y => y).trans n26.rd)
  refine ⟨_, rfl, cellsAll C30.rg, _, by rw [ints_length, c1.w.rl], cellsAll r1_30, ?_⟩
  have ag := c1.again
  rcases cut_ok (k := low) dm a1 c1.w c1.tg (by omega) with ⟨_, _, x, hx, h0, hD⟩ | ⟨T1', R1', Z1', e', _, _, _, _, nf⟩
  · exact absurd hD (ag x hx h0)
  obtain ⟨q1, q2⟩ := nf ag
  rw [q1, q2] at e'
  refine Cut_as (gl.no C30.fr) (geoN_ok dm.hi) C30.x a1.live c1.w.rl (g0 C30.fl) (by omega) e' fun h34 F34 f34 g34 x34 => ⟨_, _, rfl, NewRow.intro (by rw [ints_length, c1.w.rl]) (ints_one _) rfl fun h36 n36 => num_spec ⟨_, rfl, cn (fun y => absurd rfl y) fun _ => ?_⟩⟩
  have C36 := (C30.call f34 g34 x34).no n36.fr
  have z34 := f34.size
  have z36 := n36.size
  have nF24 : ¬ F24 h24.size := fun y => by have := F24lt _ y; omega
  have r1_36 : rd h36 h24.size = ints R1 := (n36.at_ (by omega)).trans ((f34.rd (by omega) nF24).trans r1_30)
  have e15 := eq15 c1.w.rl
  refine ⟨_, by rw [ints_length, c1.w.rl], cellsAll n36.rd, _, by rw [ints_length, c1.w.rl], cellsAll r1_36, e15.1, ?_⟩
  rw [e15.2]
  refine cf rfl (Written_spec C36.x (by omega) fun sa2 sl2 sc2 h38 f38 el2 s38 => ⟨_, _, _, rfl, ?_⟩)
  have el2 : sl2 = T1.written.length := by omega
  subst el2
  have C38 := C36.no f38
  have z38 := f38.size
  have s' : Sl h38 1 sa T1.written.length sc (ints T1.written) (fun b => From h26.size b ∧ b < h29.size) := ((((sl_rngB s).fr f30 fun _ _ _ y => y).fr f34 fun b _ hb y => by have := F24lt b y; have hb : h26.size ≤ b ∧ _ := hb; omega).fr n36.fr fun _ _ _ y => y).fr f38 fun _ _ _ y => y
  have sb' : Sl h38 1 ba T1.written.length bc (T1.written.map (strV Z1)) (fun b => From h29.size b ∧ b < h30.size) := (((sl_rngB sb).fr f34 fun b _ hb y => by have := F24lt b y; have hb : h29.size ≤ b ∧ _ := hb; omega).fr n36.fr fun _ _ _ y => y).fr f38 fun _ _ _ y => y
  refine same_spec s38.cells s'.cells (by omega) ⟨_, rfl, ?_⟩
  rw [show decide (T1.written = T1.written) = true from decide_eq_true rfl]
  have o34 : ∀ b, b < h30.size → F34 b → F24 b := fun b hb y => (g34.old b hb).mp y
  refine cf rfl (cuts_k5 (u := 200000) gl dm C38 X.a X.w X.tg X.H (by omega) (by omega) (by omega) x1 a1 c1 hle hhi ((f38.rd (by omega) fun y => y).trans r1_36) (fun y => nF24 (o34 _ (by omega) y)) hW (by omega) _ _ _ _ _ _ s' sb' (fun b hb y => ?_) hK)
  have hb : (h26.size ≤ b ∧ b < h29.size) ∨ (h29.size ≤ b ∧ b < h30.size) := hb
  have := F24lt b (o34 b (by omega) y)
  omega
def CuI (n m : Nat) (h1 : Heap) (gb xb mb : Nat) (t d : Option Addr) : Int → Heap → Prop := fun i hh =>
  ∃ (j : Nat) (F : Nat → Prop) (T : TM) (Z : Nat → Txt) (R : List Int) (has : MapI), i = j ∧ j ≤ m ∧ Lx n h1 gb xb mb t d hh F T Z R has (9 * j)
theorem cuts_k3 {n u : Nat} {c0 c1 : Int} {h1 h2 h4 h8 h10 h19 : Heap} {t d : Option Addr} {F : Nat → Prop} {T : TM} {Z : Nat → Txt} {R : List Int} {has : MapI} {K : Value → Heap → Prop} (gl : Glo h1) (dm : Dim n) (hn : n < 5000) (hcb : h2.size < h1.size) (rc : rd h1 h2.size = ints [c0, c1]) (X : Lx n h1 h4.size h8.size h10.size t d h19 F T Z R has u) (hu : u ≤ 100000) (hK : ∀ h', Fr No h1 h' → K (.bool true) h') :
    bolelaw10_BmapCuts.k3 h2 h4 t h8 h10 h19 K := by
  unfold bolelaw10_BmapCuts.k3
  have r : rd h19 h2.size = ints [c0, c1] := (X.fr.rd hcb fun y => y).trans rc
  refine ⟨⟨by decide, by decide⟩, c0, rda r rfl, ⟨by decide, by decide⟩, c1, rda r rfl, index_spec ⟨_, rfl, rda r rfl, index_spec ⟨_, rfl, ?_⟩⟩⟩
  have k0 := idxN_lt c0
  have k1 := idxN_lt c1
  generalize idxN c0 = a at k0 ⊢
  generalize idxN c1 = b at k1 ⊢
  exact cd (fun h => cuts_k4 gl dm hn X hu (by omega) (by omega) hK) fun h => cuts_k4 gl dm hn X hu (by omega) (by omega) hK
theorem Cuts_spec {more c0 c1 : Int} {ta ra ia : Option Addr} {tc rc ic : Nat} {ks vs : List Int} {rs : List RawI} {h : Heap} {K : Value → Heap → Prop} (gl : Glo h) (X : SlCells h ta (ints ks)) (Y : SlCells h ra (rs.flatMap RawI.v)) (hY : ∀ r ∈ rs, StrAt h r.a r.l r.bs) (hkl : ks.length ≤ 140737488355328) (hrl : rs.length ≤ 140737488355328)
    (V : SlCells h ia (ints vs)) (_ : vs.length ≤ 140737488355328) (hc : vs.length ≤ ic) (hK : ∀ h', Fr No h h' → K (.bool true) h') : C.bolelaw10_BmapCuts (setupV more ta ks.length tc ra rs.length rc) ia vs.length ic (ints [c0, c1]) h K := by
  refine bolelaw10_BmapCuts.ok (New.intro fun h2 n2 => New.intro fun h3 n3 => ?_)
  have gl1 := gl.lt
  have z2 := n2.size
  have z3 := n3.size
  have F3 : Fr No h h3 := n2.fr.new n3
  have gl3 := gl.no F3
  have rc3 : rd h3 h2.size = ints [c0, c1] := n3.rd
  refine start_at gl3 ((n3.at_ n2.own.lt).trans n2.rd) (SlCells.fr F3 X fun _ _ y => y) (SlCells.fr F3 Y fun _ _ y => y) (fun r hr => StrAt.fr F3 (hY r hr) fun _ _ y => y) hkl hrl fun n t d F T Z h4 h6 dm hn F6 lo rg x hF a hks hun => ?_
  have V3 : SlCells h3 ia (ints vs) := SlCells.fr F3 V fun _ _ y => y
  have hcb : h2.size < h3.size := by omega
  have hK3 : ∀ h', Fr No h3 h' → K (.bool true) h' := fun h' f => hK h' (F3.no f)
  clear X Y hY V n2 n3 hK
  unfold bolelaw10_BmapCuts.k1
  refine NewRow.intro rfl (ints_one z15) rfl fun h10 n10 => ?_
  have l4 : h4.size < h6.size := rd_lt (o := 0) (v := .int .i64 (geoN n).blocks) (by rw [rg]; rfl)
  have z10 := n10.size
  have fm : Fr No h10 (newM h10) := newM_fr h10
  have zm := newM_size h10
  have n0 : ∀ s, s < nS → num Z z15 s = 0 := num_nil fun i _ _ => z15_get i
  obtain ⟨m, em, hm1, hm2⟩ : ∃ m : Nat, (if (200 : Int) < (vs.length : Int) then 200 else (vs.length : Int)) = (m : Int) ∧ m ≤ vs.length ∧ m ≤ 200 := by
    split
    · exact ⟨200, rfl, by omega, Nat.le_refl _⟩
    · exact ⟨vs.length, rfl, Nat.le_refl _, by omega⟩
  rw [em, Int.toNat_natCast]
  have L0 : Lx n h3 h4.size h6.size h10.size t d (newM h10) F T Z z15 [] (9 * 0) :=
    ⟨(F6.new n10).no fm, by omega, (fm.rd (by omega) fun y => y).trans ((n10.at_ (by omega)).trans rg), (fm.rd (by omega) fun y => y).trans n10.rd, fm.own (by omega) (fun y => y) n10.own, newM_at h10, ⟨by omega, by omega, by omega, by omega⟩, (x.no n10.fr).no fm,
      ⟨fun y => by have := hF _ y; omega, fun y => by have := hF _ y; omega, fun y => by have := hF _ y; omega⟩, fun b hb => (hF b hb).1, a, wf_nil rfl fun i _ _ => z15_get i, tight_nil fun i _ _ => z15_get i, Has.nil n0, by rw [hun]; exact Nat.zero_le _⟩
  refine ⟨⟨by omega, by omega⟩, CuI n m h3 h4.size h6.size h10.size t d, fun i _ => ((m : Int) - i).toNat, ⟨0, F, T, Z, z15, [], rfl, Nat.zero_le _, L0⟩, ?_⟩
  clear L0 n0 hF x a rg hks hun fm n10
  intro i h12 hI
  obtain ⟨j, F1, T1, Z1, R1, has, ei, hj, X⟩ := hI
  subst ei
  have un := X.un
  refine cd (fun hlt => ?_) fun hlt => cuts_k3 gl3 dm hn hcb rc3 X (by omega) hK3
  have hj' : j < vs.length := by omega
  obtain ⟨p, ep, cp⟩ := Hd.ints_get (SlCells.fr X.fr V3 fun _ _ y => y) hj'
  rw [Int.toNat_natCast]
  have g0 : ∀ b, b < 1 → ¬ F1 b := fun b hb y => by have := X.fl b y; omega
  have hk2 := idxN_lt vs[j]
  obtain ⟨k, ek⟩ : ∃ k, k = idxN vs[j] := ⟨_, rfl⟩
  rw [← ek] at hk2
  obtain ⟨T2, Y, v, er, e⟩ : ∃ T2 Y v er, addM T1 (geoN n) R1 (k : Int) = (T2, Y, v, er) := ⟨_, _, _, _, rfl⟩
  have lY : Y.length = 15 := by
    rcases add_ok (k := k) dm X.a X.w hk2 with ⟨e2, _⟩ | ⟨e2, _⟩ | ⟨T3, R3, Z3, e2, _, ad, _⟩
    · rw [e] at e2; cases e2; rfl
    · rw [e] at e2; cases e2; rfl
    · rw [e] at e2; cases e2; exact ad.w.rl
  obtain ⟨xl1, xl2, xl3⟩ := X.lt
  have z15one : ∀ w ∈ ints Y, w.oneCell' = true := ints_one Y
  have fin : ∀ {hf : Heap} {yb : Nat} {F' : Nat → Prop}, Lc n h3 h4.size h6.size h10.size t d hf F' T2 R1 has → rd hf yb = ints Y → h12.size ≤ yb → bolelaw10_BmapCuts.k2 h2 h4 t h6 h10 (j : Int) h12 (CuI n m h3 h4.size h6.size h10.size t d) (fun i _ => ((m : Int) - i).toNat) vs[j] (some ⟨yb, 0, none⟩) v er hf K := fun {hf yb F'} C ry hyb => by
    have lyb : yb < hf.size := rd_lt (o := 0) (v := .int .i64 (Y.getD 0 0)) (by rw [ry]; exact ints_at lY (by decide))
    unfold bolelaw10_BmapCuts.k2
    rcases add_ok (k := k) dm X.a X.w hk2 with ⟨e2, _⟩ | ⟨e2, _⟩ | ⟨T3, R3, Z3, e2, a3, ad, nf, _, _, _⟩
    · rw [e] at e2
      cases e2
      exact num_spec ⟨_, rfl, cn (fun _ => cuts_k3 gl3 dm hn hcb rc3 (C.lx X.a X.w X.tg X.H (Nat.le_refl _)) (by omega) hK3) fun y => absurd y (by decide)⟩
    · rw [e] at e2
      cases e2
      exact num_spec ⟨_, rfl, cn (fun _ => cuts_k3 gl3 dm hn hcb rc3 (C.lx X.a X.w X.tg X.H (Nat.le_refl _)) (by omega) hK3) fun y => absurd y (by decide)⟩
    · have un2 := addM_un (T := T1) (g := geoN n) (R := R1) (k := (k : Int))
      rw [e2] at un2
      rw [e] at e2
      cases e2
      have un2 : T2.undo.length ≤ T1.undo.length + 9 := un2
      refine num_spec ⟨_, rfl, cn (fun y => absurd rfl y) fun _ => os ⟨_, by rw [ints_length, lY], cellsAll ry, index_spec ⟨_, rfl, os ⟨by rw [ints_length, lY], cellsAll ry⟩, rfl, has, C.M, fun n47 n48 h73 E => ?_⟩⟩⟩
      have E1 := E.to
      rw [← ek, mI_mm, mput_mm] at E1
      have f73 := mapTo_fr E1
      have z73 := E1.size
      have C73 := C.map (has' := aput has k n47) E1
      have ry73 : rd h73 yb = ints Y := (f73.rd lyb (by omega)).trans ry
      refine ⟨os ⟨by rw [ints_length, lY], cellsAll ry73⟩, rfl, aput has k n47, .i (k : Int), C73.M, by rw [ek]; exact E.st, fun h74 T74 => ?_⟩
      have T74' : MapTo (.int .i64) h73 h10.size (mI (aput has k ((num Z3 Y k : Nat) : Int))) h74 := by
        have := T74
        rw [mI_mm, mput_mm, aput_twice] at this
        exact this
      have f74 := mapTo_fr T74'
      have C74 := C73.map T74'
      have ry74 : rd h74 yb = ints Y := (f74.rd (by omega) (by omega)).trans ry73
      refine ⟨os ⟨by rw [ints_length, lY], cellsAll ry74⟩, PutRow.intro C74.ox (by rw [ints_length, lY]) (ints_one _) (by rw [C74.rx, ints_length, X.w.rl]; exact Nat.le_refl _) fun h75 d75 => ?_⟩
      rw [wrap_i64 (n := (j : Int) + 1) (by omega) (by omega)]
      exact ⟨⟨j + 1, F', T2, Z3, Y, _, by omega, by omega, (C74.wr d75 lY).lx a3 ad.w (ad.tight hk2 X.tg) (X.H.add ad hk2) (by omega)⟩, falls hlt⟩
  refine ⟨⟨by omega, hlt⟩, Tm.oe ep ⟨_, cp, _, rfl, cellsAll X.rg, _, by rw [ints_length, X.w.rl], cellsAll X.rx, index_spec ⟨_, rfl, ⟨rfl, cellsAll X.rg⟩, ⟨by rw [ints_length, X.w.rl], cellsAll X.rx⟩, ?_, ?_⟩, ?_⟩⟩
  · rw [← ek]
    refine Add_as (gl3.no X.fr) dm X.x X.a.live X.w.rl g0 (by omega) e fun h14 F14 f14 g14 x14 => ⟨_, _, _, rfl, New.intro fun h15 n15 => ?_⟩
    have C14 := X.c.call f14 g14 x14
    have C15 := C14.no n15.fr
    have z14 := f14.size
    have z15' := n15.size
    refine ⟨⟨rfl, cellsAll C15.rg⟩, ⟨by rw [ints_length, X.w.rl], cellsAll C15.rx⟩, PutRow.intro n15.own (by rw [ints_length, lY]) z15one (by rw [n15.rd]; exact Nat.le_refl _) fun h16 d16 => ?_⟩
    have lo := X.lo
    have hne := X.ne
    have := X.fr.size
    refine fin (C15.did d16 (by omega) ⟨by omega, by omega, by omega⟩ fun y => by have := x14.lt y; omega) ?_ (by omega)
    rw [d16.rd, n15.rd]; exact put_all _ _ (by rw [ints_length, lY]; rfl)
  · refine New.intro fun h76 n76 => ?_
    have X76 := X.no n76.fr
    have z76 := n76.size
    refine ⟨⟨rfl, cellsAll X76.rg⟩, ⟨by rw [ints_length, X.w.rl], cellsAll X76.rx⟩, ?_⟩
    rw [← ek]
    refine Add_as (gl3.no X76.fr) dm X76.x X.a.live X.w.rl g0 (by omega) e fun h77 F77 f77 g77 x77 => ⟨_, _, _, rfl, ?_⟩
    have C77 := X76.c.call f77 g77 x77
    have z77 := f77.size
    have nF : ¬ F1 h12.size := fun y => by have := X.x.lt y; omega
    have ry : rd h77 h12.size = z44 := (f77.rd (by omega) nF).trans n76.rd
    refine PutRow.intro (f77.own (by omega) nF n76.own) (by rw [ints_length, lY]) z15one (by rw [ry]; exact Nat.le_refl _) fun h78 d78 => ?_
    have lo := X.lo
    have hne := X.ne
    have := X.fr.size
    refine fin (C77.did d78 (by omega) ⟨by omega, by omega, by omega⟩ fun y => nF ((g77.old _ (by omega)).mp y)) ?_ (by omega)
    rw [d78.rd, ry]; exact put_all _ _ (by rw [ints_length, lY]; rfl)
  · refine New.intro fun h76 n76 => ?_
    have X76 := X.no n76.fr
    have z76 := n76.size
    refine ⟨⟨rfl, cellsAll X76.rg⟩, ⟨by rw [ints_length, X.w.rl], cellsAll X76.rx⟩, index_spec ⟨_, rfl, ⟨rfl, cellsAll X76.rg⟩, ⟨by rw [ints_length, X.w.rl], cellsAll X76.rx⟩, ?_⟩⟩
    rw [← ek]
    refine Add_as (gl3.no X76.fr) dm X76.x X.a.live X.w.rl g0 (by omega) e fun h77 F77 f77 g77 x77 => ⟨_, _, _, rfl, ?_⟩
    have C77 := X76.c.call f77 g77 x77
    have z77 := f77.size
    have nF : ¬ F1 h12.size := fun y => by have := X.x.lt y; omega
    have ry : rd h77 h12.size = z44 := (f77.rd (by omega) nF).trans n76.rd
    refine PutRow.intro (f77.own (by omega) nF n76.own) (by rw [ints_length, lY]) z15one (by rw [ry]; exact Nat.le_refl _) fun h78 d78 => ?_
    have lo := X.lo
    have hne := X.ne
    have := X.fr.size
    refine fin (C77.did d78 (by omega) ⟨by omega, by omega, by omega⟩ fun y => nF ((g77.old _ (by omega)).mp y)) ?_ (by omega)
    rw [d78.rd, ry]; exact put_all _ _ (by rw [ints_length, lY]; rfl)
end Go.Proofs.YtcdpakjhjmchhaaGreatDoor.Bm
