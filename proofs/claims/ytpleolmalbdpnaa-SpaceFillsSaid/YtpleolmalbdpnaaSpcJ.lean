/-
  SPACE: the law SpaceFills, its loops.
-/
import Derived.Test.YtpleolmalbdpnaaSpcI
namespace Go.Proofs.Ytpleolmalbdpnaa.Spc
open Go Go.Proofs Go.Proofs.Ytpleolmalbdpnaa.Wx Go.Proofs.Ytpleolmalbdpnaa.Hp Go.Proofs.Ytpleolmalbdpnaa.W Go.Proofs.Ytpleolmalbdpnaa.Ad Go.Proofs.Ytpleolmalbdpnaa.Tm Go.Proofs.Ytpleolmalbdpnaa.Bt Go.Proofs.Ytpleolmalbdpnaa.Rg

/-- what the law holds: its regions, and the list of what was free -/
structure Fi (n a1 : Nat) (A : Option Addr) (L : Nat) (U0 : Nat → Bool) (P : Nat → Prop) (hb : Heap) : Prop where
  r1 : rd hb a1 = (geoN n).v
  p1 : P a1
  sl : ∃ c, Sl hb 1 A L c ((frees n U0).map fun (j : Nat) => (.int .i64 (j : Int))) P
  l : L = (frees n U0).length
theorem Fi.g {n a1 : Nat} {A : Option Addr} {L n0 : Nat} {U0 : Nat → Bool} {P F : Nat → Prop} {t d : Option Addr} {T : TM} {hb hh : Heap} (a : Fi n a1 A L U0 P hb) (w : Gp n0 P F t d T hb hh) : rd hh a1 = (geoN n).v := (w.rd a.p1).trans a.r1
theorem Fi.cell {n a1 : Nat} {A : Option Addr} {L n0 : Nat} {U0 : Nat → Bool} {P F : Nat → Prop} {t d : Option Addr} {T : TM} {hb hh : Heap} (a : Fi n a1 A L U0 P hb) (w : Gp n0 P F t d T hb hh) {k : Nat} (hk : k < (frees n U0).length) : ∃ p, A = some p ∧ cellOf hh (p.add k) = some (.int .i64 ((frees n U0)[k] : Int)) := by
  obtain ⟨c, s⟩ := a.sl
  have s := w.sl s
  obtain ⟨p, e, cc⟩ := s.get (by rw [a.l]; omega)
  exact ⟨p, e, Cells.cell cc (by rw [List.getElem?_map, List.getElem?_eq_getElem hk]; rfl)⟩
theorem fill_k4 {n L : Nat} {A : Option Addr} {n0 : Nat} {U0 V : Nat → Bool} {Z : Nat → Txt} {u : Nat} {P F : Nat → Prop} {t d : Option Addr} {T : TM} {h5 hb hh : Heap} {K : Value → Heap → Prop} (hn : 128 ≤ n ∧ n ≤ 187) (f : Fi n h5.size A L U0 P hb) (w : Gp n0 P F t d T hb hh)
    (s : St n V Z (keysN n U0) u T) (hu : u < 1000) (v : Vw n U0 (fun _ => false) V) (hK : ∀ h' F' T', Gp n0 P F' t d T' hb h' → K (.bool true) h') : bolelaw09_SpaceFills.k4 h5 t A L hh K := by
  refine ce (fun _ => hK _ _ _ w) fun h0 => ?_
  have hL := f.l
  have h0 : 0 < (frees n U0).length := by omega
  refine ⟨_, rfl, cellsAll (f.g w), take_low (k := 0) (by omega) w.x s hu v h0 rfl (fun i hi => by omega) fun h29 F29 f29 g29 x29 => ⟨_, _, rfl, ?_⟩⟩
  have hg := frees_get h0
  obtain ⟨e1, e2, e3, e4⟩ := data101 (n := n) (by omega)
  obtain ⟨t1, _⟩ := s.take (m := (frees n U0)[0]) (by omega) (by omega) hg.2.1 (keysN_at (by omega) (by omega)) (keysN_mem h0) (keysN_len hn)
  rw [t1]
  have w29 := w.call f29 g29 x29
  obtain ⟨p, ep, hc⟩ := f.cell w29 h0
  refine ct rfl ⟨⟨by omega, by omega⟩, Bt.oe ep ⟨_, hc, ?_⟩⟩
  rw [beq_self_eq_true]
  exact hK _ _ _ w29
/-- the third loop: k are given back -/
structure S3 (n k o : Nat) (U0 : Nat → Bool) (V : Nat → Bool) (Z : Nat → Txt) (T : TM) : Prop where
  s : St n V Z (keysN n U0) (200 + k) T
  v : Vw n U0 (fun i => decide (k ≤ unrot (frees n U0).length o i)) V
  cnt : cntP (pU n V) 4096 = k
theorem fill_k3 {order : Int} {n L : Nat} {A : Option Addr} {n0 : Nat} {U0 V : Nat → Bool} {Z : Nat → Txt} {P F : Nat → Prop} {t d : Option Addr} {T : TM} {h5 hb hh : Heap} {K : Value → Heap → Prop} (hn : 128 ≤ n ∧ n ≤ 187) (f : Fi n h5.size A L U0 P hb) (w : Gp n0 P F t d T hb hh)
    (s : St n V Z (keysN n U0) 200 T) (v : Vw n U0 (fun i => decide (i < (frees n U0).length)) V) (cnt : cntP (pU n V) 4096 = 0) (hK : ∀ h' F' T', Gp n0 P F' t d T' hb h' → K (.bool true) h') : bolelaw09_SpaceFills.k3 order h5 t A L hh K := by
  have hL := f.l
  have hle := frees_le (n := n) (U := U0) (by omega)
  obtain ⟨e1, e2, e3, e4⟩ := data101 (n := n) (by omega)
  have ok := geoN_ok (n := n) (by omega)
  obtain ⟨o, ho⟩ : ∃ o : Nat, 0 < (frees n U0).length → o < (frees n U0).length ∧ modI order ((frees n U0).length : Int) = o := by
    by_cases h0 : 0 < (frees n U0).length
    · have := modI_range (v := order) (n := ((frees n U0).length : Int)) (by omega)
      exact ⟨(modI order ((frees n U0).length : Int)).toNat, fun _ => ⟨by omega, by omega⟩⟩
    · exact ⟨0, fun x => absurd x h0⟩
  refine ⟨fun k hh => ∃ (kN : Nat) (V : Nat → Bool) (Z : Nat → Txt) (F : Nat → Prop) (T : TM), k = kN ∧ kN ≤ L ∧ S3 n kN o U0 V Z T ∧ Gp n0 P F t d T hb hh, fun k _ => ((L : Int) - k).toNat, ⟨0, V, Z, F, T, rfl, Nat.zero_le _, ⟨s, v.congr fun i hi => ?_, cnt⟩, w⟩, ?_⟩
  · rw [decide_eq_true hi, decide_eq_true (Nat.zero_le _)]
  rintro _ h23 ⟨k, V, Z, F, T, rfl, hkL, a, w⟩
  refine cd (fun hk => ?_) fun hk => ?_
  · have hk : k < (frees n U0).length := by omega
    obtain ⟨ho1, ho2⟩ := ho (by omega)
    rw [hL]
    refine mod_spec (by omega) (by omega) ⟨_, rfl, ?_⟩
    rw [ho2, wrap_i64 (n := (k : Int) + o) (by omega) (by omega)]
    refine mod_spec (by omega) (by omega) ⟨_, rfl, ?_⟩
    rw [mod_rot ho1 hk]
    have hr := rot_lt ho1 hk
    have hur := unrot_rot ho1 hk
    obtain ⟨p, ep, hc⟩ := f.cell w hr
    have hg := frees_get hr
    have et : Int.toNat ((rot (frees n U0).length o k : Nat) : Int) = rot (frees n U0).length o k := rfl
    rw [et]
    refine ⟨⟨by omega, by omega⟩, Bt.oe ep ⟨_, hc, _, rfl, cellsAll (f.g w), ?_⟩⟩
    have hu := a.s.undo
    have hV : V (frees n U0)[rot (frees n U0).length o k] = true := by rw [a.v.at_ _ hr, hur, decide_eq_true (Nat.le_refl _)]
    obtain ⟨_, gv⟩ := a.s.give (i := (frees n U0)[rot (frees n U0).length o k]) (by omega) (by omega) hg.2.1 (keysN_at (by omega) (by omega)) (keysN_len hn)
    obtain ⟨g1, g2⟩ := gv hV
    refine Give_spec w.x ok (by omega) fun h26 F26 f26 gw26 x26 => ⟨_, rfl, ?_⟩
    rw [g1]
    have w26 := w.call f26 gw26 x26
    refine cf rfl ⟨_, rfl, cellsAll (f.g w26), ?_⟩
    obtain ⟨gv2, _⟩ := g2.give (i := (frees n U0)[rot (frees n U0).length o k]) (by omega) (by omega) hg.2.1 (keysN_at (by omega) (by omega)) (keysN_len hn)
    have g3 := gv2 (by unfold updB; rw [if_pos rfl])
    have hu2 := g2.undo
    refine Give_spec w26.x ok (by omega) fun h27 F27 f27 gw27 x27 => ⟨_, rfl, ?_⟩
    rw [g3] at x27 ⊢
    have w27 : Gp n0 P F27 t d _ hb h27 := w26.call f27 gw27 x27
    rw [wrap_i64 (n := (k : Int) + 1) (by omega) (by omega)]
    refine cf rfl ⟨⟨k + 1, _, Z, F27, _, rfl, by omega, ⟨g2, (a.v.upd hr false).congr fun i hi => ?_, ?_⟩, w27⟩, by show ((((frees n U0).length : Nat) : Int) - ((k : Int) + 1)).toNat < ((((frees n U0).length : Nat) : Int) - (k : Int)).toNat; omega⟩
    · unfold updB
      by_cases e : i = rot (frees n U0).length o k
      · rw [if_pos e, e, hur, decide_eq_false (by omega)]
      · rw [if_neg e]
        have := unrot_ne ho1 hk hi e
        exact decide_eq_decide.mpr (by omega)
    · rw [cnt_on (by omega) a.v hr (by rw [hur, decide_eq_true (Nat.le_refl _)]), a.cnt]
  · have hk : k = L := by omega
    subst hk
    have hu := a.s.undo
    refine ⟨_, rfl, cellsAll (f.g w), free_cnt (by omega) w.x a.s fun h28 f28 => ⟨_, _, rfl, ?_⟩⟩
    rw [a.cnt]
    refine cf rfl (cn (fun hne => absurd rfl hne) fun _ => fill_k4 hn f (w.no f28) a.s (by omega) (a.v.congr fun i hi => ?_) hK)
    have := unrot_lt (ho (by omega)).1 hi
    exact decide_eq_false (by omega)
theorem SpaceFills_spec {v order : Int} {bA sA : Option Addr} {bL bC sL sC : Nat} {rest : UInt8} {bits : Txt} {h : Heap} {K : Value → Heap → Prop} (B : StrAt h bA bL bits) (hbl : bL ≤ 140737488355328) (hK : ∀ h', Fr No h h' → K (.bool true) h') : C.bolelaw09_SpaceFills (caseV v bA bL bC rest sA sL sC) order h K := by
  refine bolelaw09_SpaceFills.ok (New.intro fun h2 n2 => ⟨_, rda n2.rd rfl, mod_spec (by decide) (by decide) ⟨_, rfl, ?_⟩⟩)
  have hr := modI_range (v := v) (n := 60) (by decide)
  generalize modI v 60 = q at hr ⊢
  refine Put.add n2.own (by rw [n2.rd]; show 0 + 0 < 4; omega) fun h4 d4 => ?_
  have z2 := n2.size
  have z4 := d4.size
  have r4 : rd h4 h.size = caseV q bA bL bC rest sA sL sC := by rw [d4.rd, n2.rd]; rfl
  have f4 : Fr No h h4 := n2.fr.did d4 fun hb => by omega
  have hn : 128 ≤ blkN q ∧ blkN q ≤ 187 := by
    have e : modI q 200 = q := by
      unfold modI
      have : Int.tmod q 200 = q := by
        obtain ⟨m, rfl⟩ := Int.eq_ofNat_of_zero_le hr.1
        show (((m % 200 : Nat)) : Int) = m
        rw [Nat.mod_eq_of_lt (by omega)]
      rw [this, if_neg (by omega)]
    unfold blkN
    rw [e, if_pos (by omega)]; omega
  refine ⟨_, rfl, cellsAll r4, opened_spec (StrAt.fr f4 B fun _ _ x => x) hbl (onC_lo (by rw [(data101 (n := blkN q) (by omega)).1]; omega)) fun F tb d T h5 f5 hF x5 O => ⟨_, _, rfl, ?_⟩⟩
  generalize blkN q = n at hn O ⊢
  generalize onC n bits rest = U0 at O
  obtain ⟨e1, e2, e3, e4⟩ := data101 (n := n) (by omega)
  have ok := geoN_ok (n := n) (by omega)
  have z5 := f5.size
  refine NewRow.intro rfl (G.one _) rfl fun h7 n7 => cf rfl ⟨_, rda n7.rd rfl, ?_⟩
  have z7 := n7.size
  have s0 := O.st x5 (keysN n U0)
  have x7 := x5.no n7.fr
  have f7 : Fr No h h7 := (f4.no f5).new n7
  refine ⟨fun A L C i hh => ∃ k : Nat, i = k ∧ 101 ≤ k ∧ k ≤ n ∧ Fr No h7 hh ∧ L = ((List.range k).filter (pU n U0)).length ∧ Sl hh 1 A L C (((List.range k).filter (pU n U0)).map fun (j : Nat) => (.int .i64 (j : Int))) (From h7.size),
    fun _ _ _ i _ => ((n : Int) - i).toNat, ⟨101, by rw [e1], Nat.le_refl _, by omega, Fr.refl _ _, ?_, ?_⟩, ?_⟩
  · have hz : ((List.range 101).filter (pU n U0)) = [] := List.filter_eq_nil_iff.mpr fun j hj x => by
      have := List.mem_range.mp hj
      have := (pU_iff.mp x).1; omega
    rw [hz]; rfl
  · have hz : ((List.range 101).filter (pU n U0)) = [] := List.filter_eq_nil_iff.mpr fun j hj x => by
      have := List.mem_range.mp hj
      have := (pU_iff.mp x).1; omega
    rw [hz]; exact Sl.nil _ _ _
  rintro A L Cc i h8 ⟨k, rfl, k0, kn, f8, hL, s8⟩
  have z8 := f8.size
  have r8 : rd h8 h5.size = (geoN n).v := (f8.rd (by omega) fun x => x).trans n7.rd
  have x8 := x7.no f8
  refine ⟨_, rda r8 rfl, cd (fun hk => ?_) fun hk => ?_⟩
  · have hk : k < n := by omega
    have er : (geoN n).at_ ((k : Nat) : Int).toNat = ((98 : Nat) : Int) := by
      have et : ((k : Nat) : Int).toNat = k := rfl
      unfold G.at_
      rw [et, e3, show k / 4096 = 0 by omega]
    have hok := (s0.ok 98 (by omega)).1
    refine ⟨_, rfl, cellsAll r8, Used_spec x8 ok (fun hb => absurd ⟨by omega, by omega⟩ hb) (fun _ _ he => by rw [er] at he; exact absurd hok he) fun _ _ _ h9 f9 => ⟨_, _, rfl, cf rfl ?_⟩⟩
    have hb := s0.bits k (by rw [e2]; omega)
    have et : ((k : Nat) : Int).toNat = k := rfl
    rw [et, hb, wrap_i64 (n := (k : Int) + 1) (by omega) (by omega)]
    have fall : ((n : Int) - ((k : Int) + 1)).toNat < ((n : Int) - (k : Int)).toNat := by omega
    have s9 := s8.fr f9 fun _ _ _ x => x
    refine cnot (cs (fun hu => ?_) fun hu => ?_)
    · have ef : (List.range (k + 1)).filter (pU n U0) = (List.range k).filter (pU n U0) := by
        rw [List.range_succ, List.filter_append, List.filter_cons_of_neg (by rw [pU_iff, hu]; simp), List.filter_nil, List.append_nil]
      refine ⟨⟨k + 1, rfl, by omega, by omega, f8.no f9, by rw [ef]; exact hL, by rw [ef]; exact s9⟩, fall⟩
    · have ef : (List.range (k + 1)).filter (pU n U0) = (List.range k).filter (pU n U0) ++ [k] := by
        rw [List.range_succ, List.filter_append, List.filter_cons_of_pos (pU_iff.mpr ⟨k0, hk, hu⟩), List.filter_nil]
      refine New.intro fun h10 n10 => ⟨_, rfl, cellsAll n10.rd, ?_, ?_⟩
      · intro w hw
        rw [List.mem_singleton.mp hw]; rfl
      · have hle : ((List.range k).filter (pU n U0)).length ≤ (List.range k).length := List.length_filter_le _ _
        rw [List.length_range] at hle
        refine append_own (s9.fr n10.fr fun _ _ _ x => x) rfl rfl (by show (L + 1) * 8 ≤ _; omega) (by omega) fun a' c' h11 f11 s11 => ?_
        have z9 := f9.size
        have z10 := n10.size
        refine ⟨⟨k + 1, rfl, by omega, by omega, ((f8.no f9).new n10).trans f11 fun b hb y => by have y : h7.size ≤ b := y; omega, by rw [ef, List.length_append, ← hL]; rfl, ?_⟩, fall⟩
        rw [ef, List.map_append]
        exact s11.mono fun b hb => by
          rcases hb with hb | hb
          · exact hb
          · show h7.size ≤ b; omega
  · have hk : k = n := by omega
    subst hk
    have hxs : (List.range k).filter (pU k U0) = frees k U0 := rfl
    rw [hxs] at hL s8
    have s8 := sl_rng s8
    -- what stays
    have fi : Fi k h5.size A L U0 (fun b => b = h5.size ∨ h7.size ≤ b ∧ b < h8.size) h8 := ⟨r8, .inl rfl, ⟨Cc, s8.mono fun b hb => .inr hb⟩, hL⟩
    have w0 : Gp h.size (fun b => b = h5.size ∨ h7.size ≤ b ∧ b < h8.size) F (some ⟨tb, 0, none⟩) d T h8 h8 := by
      refine ⟨x8, fun b hb => ⟨by have := hF b hb; omega, ?_⟩, Fr.refl _ _, ?_, by omega⟩
      · have := x5.lt hb
        omega
      · rintro b (rfl | hb)
        · omega
        · exact hb.2
    have fin : ∀ h' F' T', Gp h.size (fun b => b = h5.size ∨ h7.size ≤ b ∧ b < h8.size) F' (some ⟨tb, 0, none⟩) d T' h8 h' → K (.bool true) h' := fun h' F' T' w =>
      hK h' ((f7.no f8).trans w.f fun b hb y => by omega)
    refine ⟨fun i hh => ∃ (iN : Nat) (V : Nat → Bool) (Z : Nat → Txt) (F : Nat → Prop) (T : TM), i = iN ∧ iN ≤ L ∧ S2 k iN U0 V Z T ∧ Gp h.size (fun b => b = h5.size ∨ h7.size ≤ b ∧ b < h8.size) F (some ⟨tb, 0, none⟩) d T h8 hh, fun i _ => ((L : Int) - i).toNat,
      ⟨0, U0, _, F, T, rfl, Nat.zero_le _, ⟨s0, (Vw.start k U0).congr fun i _ => (decide_eq_false (by omega)).symm, by rw [frees_len (by omega)]; rfl, by rw [O.put]; rfl, by rw [O.put]; exact ⟨fun _ => rfl, fun _ => rfl⟩, fun i hi _ => by rw [O.put]; rfl⟩, w0⟩, ?_⟩
    rintro _ h12 ⟨i, V, Z, F, T, rfl, hiL, a, w⟩
    have hu := a.s.undo
    have hle := frees_le (n := k) (U := U0) (by omega)
    refine cd (fun hi => ?_) fun hi => ?_
    · have hi : i < (frees k U0).length := by omega
      obtain ⟨p, ep, hc⟩ := fi.cell w hi
      have et : Int.toNat (i : Int) = i := rfl
      rw [et]
      refine ⟨⟨by omega, by omega⟩, Bt.oe ep ⟨_, hc, _, rfl, cellsAll (fi.g w), free_cnt (by omega) w.x a.s fun h13 f13 => ⟨_, _, rfl, cf rfl ?_⟩⟩⟩
      have hcn := a.cnt
      rw [wrap_i64 (n := (L : Int) - i) (by omega) (by omega)]
      refine cn (fun hne => absurd (by omega) hne) fun _ => ?_
      have w13 := w.no f13
      have hg := frees_get hi
      obtain ⟨t1, t2⟩ := a.step hn hi
      refine ⟨_, rfl, cellsAll (fi.g w13), take_low (by omega) w13.x a.s (by omega) a.v hi (decide_eq_false (by omega)) (fun j hj => decide_eq_true hj) fun h14 F14 f14 g14 x14 => ⟨_, _, rfl, ?_⟩⟩
      rw [t1]
      have w14 := w13.call f14 g14 x14
      have rd0 : (takeAt T (geoN k) (frees k U0)[i]).1.read ((frees k U0)[i] : Int) = (zeros512, 0) := by
        have h1 := t2.s.ok (frees k U0)[i] hg.2.1
        have h2 := t2.s.data (frees k U0)[i] (by omega) hg.2.1
        unfold updZ at h2
        rw [if_pos rfl] at h2
        rw [← h2, ← h1.1]
      refine Read_spec w14.x fun a2 l2 c2 h15 f15 hl2 sb => ⟨_, _, _, _, rfl, ?_⟩
      rw [rd0] at hl2 sb ⊢
      have w15 := w14.no f15
      refine cf rfl (cn (fun hne => absurd rfl hne) fun _ => cf rfl ⟨zeros512, sb.str, ?_⟩)
      show C.bolelaw09_block (((0 : UInt8).toNat : Nat) : Int) h15 _
      refine bl_spec fun b h16 f16 _ sb2 => ⟨_, _, _, rfl, ?_⟩
      rw [toList_mkStr]
      have w16 := w15.no f16
      refine ⟨StrAt.fr f16 sb.str fun _ _ x => x, zeros512, sb2.str, cf (by rw [toList_mkStr, beq_self_eq_true]; rfl) ?_⟩
      have er : (geoN k).at_ (((frees k U0)[i] : Nat) : Int).toNat = ((98 : Nat) : Int) := by
        have et : (((frees k U0)[i] : Nat) : Int).toNat = (frees k U0)[i] := rfl
        unfold G.at_
        rw [et, e3, show (frees k U0)[i] / 4096 = 0 by omega]
      have hok := (t2.s.ok 98 (by omega)).1
      refine ⟨_, rfl, cellsAll (fi.g w16), Used_spec w16.x ok (fun hb => absurd ⟨by omega, by omega⟩ hb) (fun _ _ he => by rw [er] at he; exact absurd hok he) fun _ _ _ h18 f18 => ⟨_, _, rfl, cf rfl ?_⟩⟩
      have hb := t2.s.bits (frees k U0)[i] (by rw [e2]; omega)
      have et2 : (((frees k U0)[i] : Nat) : Int).toNat = (frees k U0)[i] := rfl
      have hon : updB V (frees k U0)[i] true (frees k U0)[i] = true := by unfold updB; rw [if_pos rfl]
      rw [et2, hb, hon, wrap_i64 (n := (i : Int) + 1) (by omega) (by omega)]
      exact cnot (ct rfl ⟨⟨i + 1, _, _, F14, _, rfl, by omega, t2, w16.no f18⟩, by show ((L : Int) - ((i : Int) + 1)).toNat < ((L : Int) - (i : Int)).toNat; omega⟩)
    · have hi : i = (frees k U0).length := by omega
      refine ⟨_, rfl, cellsAll (fi.g w), take_none (by omega) w.x a.s (by omega) a.v (fun j hj => decide_eq_true (by omega)) fun h19 f19 => ⟨_, _, rfl, cf rfl ?_⟩⟩
      have w19 := w.no f19
      have hlen := a.len
      refine Written_spec w19.x (by omega) fun a4 l4 c4 h20 f20 hl4 _ => ⟨_, _, _, rfl, ?_⟩
      have w20 := w19.no f20
      have hcn := a.cnt
      have go : bolelaw09_SpaceFills.k3 order h5 (some ⟨tb, 0, none⟩) A L h20 K :=
        fill_k3 hn fi w20 ⟨a.s.live, a.s.N, a.s.bits, a.s.ok, a.s.data, a.s.keys, a.s.sub, by omega⟩ (a.v.congr fun j hj => decide_eq_decide.mpr (by omega)) (by omega) fin
      refine bolelaw09_taken.ok (cd (fun h0 => ⟨_, rfl, ?_⟩) fun h0 => ⟨_, rfl, ?_⟩)
      · rw [wrap_i64 (n := (L : Int) + 1) (by omega) (by omega)]
        refine cn (fun hne => absurd ?_ hne) fun _ => go
        rw [hl4, hlen, Nat.min_eq_right (by omega)]; omega
      · rw [wrap_i64 (n := (L : Int) + 0) (by omega) (by omega)]
        refine cn (fun hne => absurd ?_ hne) fun _ => go
        rw [hl4, hlen, Nat.min_eq_left (by omega)]; omega
end Go.Proofs.Ytpleolmalbdpnaa.Spc
