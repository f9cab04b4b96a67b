/-
  SPACE: the law SpaceLowest: its loops.
-/
import Derived.Test.YtgpkcakanieodaaSpcF
namespace Go.Proofs.Ytgpkcakanieodaa.Spc
open Go Go.Proofs Go.Proofs.Ytgpkcakanieodaa.Wx Go.Proofs.Ytgpkcakanieodaa.Hp Go.Proofs.Ytgpkcakanieodaa.W Go.Proofs.Ytgpkcakanieodaa.Ad Go.Proofs.Ytgpkcakanieodaa.Tm Go.Proofs.Ytgpkcakanieodaa.Bt Go.Proofs.Ytgpkcakanieodaa.Rg

theorem set_same {fl : List Bool} {i : Nat} (h : fl.getD i false = true) : fl.set i true = fl := by
  apply List.ext_getElem?
  intro j
  rw [List.getElem?_set]
  by_cases e : i = j
  · subst e
    rw [List.getD_eq_getElem?_getD] at h
    rw [if_pos rfl]
    cases e2 : fl[i]? with
    | none => rw [e2] at h; cases h
    | some b =>
      rw [e2] at h
      have h : b = true := h
      rw [if_pos (List.getElem?_eq_some_iff.mp e2).1, h]
  · rw [if_neg e]
theorem cntF_skip {fl : List Bool} {i : Nat} : ∀ d, i + d ≤ fl.length → (∀ j, i ≤ j → j < i + d → fl.getD j false = false) → cntF fl i = cntF fl (i + d)
  | 0, _, _ => rfl
  | d + 1, hl, h => by
    rw [cntF_skip d (by omega) fun j h1 h2 => h j h1 (by omega), cntF_at (by omega), h (i + d) (by omega) (by omega)]
    simp [Nat.add_assoc]
/-- the first loop: what is given back -/
def L1 (n gL : Nat) (t d : Option Addr) (h : Heap) (a1 a2 : Nat) (many k : Int) (hh : Heap) : Prop :=
  ∃ (kN m : Nat) (fl : List Bool) (F : Nat → Prop) (T : TM), many = m ∧ k = kN ∧ kN ≤ 40 ∧ kN ≤ gL ∧ fl.length = n ∧ fl.count true = m ∧ m ≤ kN ∧ (∀ i, fl.getD i false = true → (geoN n).data ≤ i) ∧
    St n (fun j => !fl.getD j false) (fun _ => sevens) (bm n) kN T ∧ Lw h.size a1 a2 (geoN n) fl F t d T h hh
/-- the second: what is taken again -/
def L2 (n : Nat) (fl : List Bool) (t d : Option Addr) (h : Heap) (a1 a2 : Nat) (left i : Int) (hh : Heap) : Prop :=
  ∃ (lN iN : Nat) (F : Nat → Prop) (T : TM) (tk : List Int) (Z : Nat → Txt), left = lN ∧ i = iN ∧ (geoN n).data ≤ iN ∧ iN ≤ n ∧ cntF fl iN = lN ∧ lN + tk.length ≤ 40 ∧
    St n (fun j => !(fl.getD j false && decide (iN ≤ j))) Z (bm n ++ tk) (40 + 2 * tk.length) T ∧ (∀ j, iN ≤ j → j < n → Z j = sevens) ∧ Lw h.size a1 a2 (geoN n) fl F t d T h hh
theorem low_k4 {n : Nat} {fl : List Bool} {F : Nat → Prop} {t d : Option Addr} {T : TM} {h h5 h7 hh : Heap} {U : Nat → Bool} {Z : Nat → Txt} {ks : List Int} {u : Nat} {K : Value → Heap → Prop} (hn : 128 ≤ n ∧ n ≤ 8196) (w : Lw h.size h5.size h7.size (geoN n) fl F t d T h hh)
    (s : St n U Z ks u T) (hu : u < 900000000) (hU : ∀ j, (geoN n).data ≤ j → j < n → U j = true) (hK : ∀ h', Fr No h h' → K (.bool true) h') : bolelaw09_SpaceLowest.k4 h5 t hh K := by
  have hdat : (geoN n).data = 98 + (n + 4095) / 4096 + n / 64 := rfl
  have hino : (geoN n).inodes = 98 + (n + 4095) / 4096 := rfl
  have hbm : (geoN n).bitmap = 98 := rfl
  have ok := geoN_ok (n := n) (by omega)
  have nf : ∀ m, m < 4096 * ((geoN n).inodes - 98) → ¬ FreeAt T (geoN n) m := fun m hm y => by
    have := (s.free hm).mp y
    rw [hU m this.2.1 this.2.2] at this; cases this.1
  have hu2 := s.undo
  refine ⟨_, rfl, cellsAll w.r1, Take_spec w.x ok (by omega) (by omega) (by omega) (fun k h1 h2 _ he => absurd (s.ok k (by omega)).1 he) (fun _ h17 f17 => ⟨_, _, rfl, ?_⟩) fun m hm hf _ _ => absurd hf (nf m hm)⟩
  have w17 := w.no f17
  refine ⟨_, rfl, cellsAll w17.r1, Free_spec w17.x ok (by omega) (fun k h1 h2 he => absurd (s.ok k (by omega)).1 he) fun h18 f18 => ⟨_, _, rfl, ct rfl (ct rfl ?_)⟩⟩
  have e := cnt_zero (T := T) (g := geoN n) (i := 0) (4096 * ((geoN n).inodes - 98)) fun m _ h2 => nf m (by omega)
  rw [Nat.zero_add] at e
  rw [hbm, e]
  exact hK h18 ((w17.f.no f18).mono fun b hb y => by have y : h.size ≤ b := y; omega)
theorem low_k1 {n : Nat} {fl : List Bool} {F : Nat → Prop} {t d : Option Addr} {T : TM} {h h5 h7 hh : Heap} {m : Nat} {K : Value → Heap → Prop} (hn : 128 ≤ n ∧ n ≤ 8196) (w : Lw h.size h5.size h7.size (geoN n) fl F t d T h hh) (hfl : fl.length = n) (hm : fl.count true = m) (hm2 : m ≤ 40)
    (hd : ∀ i, fl.getD i false = true → (geoN n).data ≤ i) (s : St n (fun j => !fl.getD j false) (fun _ => sevens) (bm n) 40 T) (hK : ∀ h', Fr No h h' → K (.bool true) h') : bolelaw09_SpaceLowest.k1 h5 t h7 (n : Int) (m : Int) hh K := by
  have hdat : (geoN n).data = 98 + (n + 4095) / 4096 + n / 64 := rfl
  have hino : (geoN n).inodes = 98 + (n + 4095) / 4096 := rfl
  have hbm : (geoN n).bitmap = 98 := rfl
  have ok := geoN_ok (n := n) (by omega)
  have hb3 := bm_len hn
  refine ⟨_, rda w.r1 rfl, L2 n fl t d h h5.size h7.size, fun _ i _ => ((n : Int) - i).toNat, ⟨m, (geoN n).data, F, T, [], fun _ => sevens, rfl, rfl, Nat.le_refl _, by omega, ?_, by rw [List.length_nil]; omega, ?_, fun _ _ _ => rfl, w⟩, ?_⟩
  · have := cntF_skip (fl := fl) (i := 0) (geoN n).data (by omega) fun j _ h2 => by
      cases e : fl.getD j false with
      | false => rfl
      | true => have := hd j e; omega
    rw [Nat.zero_add, cntF_zero, hm] at this
    exact this.symm
  · rw [List.append_nil]
    refine s.eqU fun j _ => ?_
    cases e : fl.getD j false with
    | false => rfl
    | true => rw [decide_eq_true (hd j e)]; rfl
  rintro left i h11 ⟨lN, iN, F, T, tk, Z, rfl, rfl, i0, i1, hc, hlt, s, hZ, w⟩
  refine ⟨_, rda w.r1 rfl, cd (fun hi => cd (fun hl => ?_) fun hl => ?_) fun hi => ?_⟩
  · have hi : iN < n := by
      have : (geoN n).blocks = n := rfl
      omega
    have hl : 0 < lN := by omega
    unfold bolelaw09_SpaceLowest.k2
    have en : Int.toNat (n : Int) = n := rfl
    have ei : Int.toNat (iN : Int) = iN := rfl
    rw [en, ei]
    have cb : cellOf h11 (Addr.add ⟨h7.size, 0, none⟩ iN) = some (.bool (fl.getD iN false)) := by
      refine rda w.r2 ?_
      rw [Nat.zero_add, List.getElem?_map, List.getD_eq_getElem?_getD, List.getElem?_eq_getElem (by omega)]; rfl
    refine ⟨⟨by omega, by omega⟩, _, cb, cnot (cs (fun ht => ?_) fun hf => ?_)⟩
    · -- it was given back: it comes
      have hfr : FreeAt T (geoN n) iN := (s.free (by omega)).mpr ⟨by rw [ht, decide_eq_true (Nat.le_refl _)]; rfl, i0, hi⟩
      have rd0 : T.read (iN : Int) = (sevens, 0) := by
        have h1 := s.ok iN hi
        have h2 := s.data iN i0 hi
        rw [hZ iN (Nat.le_refl _) hi] at h2
        rw [← h2, ← h1.1]
      refine Read_spec w.x fun a l c h12 f12 hla sa => ⟨_, _, _, _, rfl, ?_⟩
      rw [rd0] at hla sa ⊢
      refine cf rfl ⟨sevens, sa.str, ?_⟩
      show C.bolelaw09_block (((7 : UInt8).toNat : Nat) : Int) h12 _
      refine bl_spec fun b h13 f13 _ sb => ⟨_, _, _, rfl, ?_⟩
      have sa13 : StrAt h13 a l sevens := StrAt.fr f13 sa.str fun _ _ x => x
      rw [toList_mkStr]
      refine ⟨sa13, sevens, sb.str, cf (by rw [toList_mkStr, beq_self_eq_true]; rfl) ?_⟩
      have w13 := (w.no f12).no f13
      have hu2 := s.undo
      have fm : ∀ m', FreeAt T (geoN n) m' → m' < 4096 * ((geoN n).inodes - 98) → iN ≤ m' := fun m' hf hm' => by
        have := ((s.free hm').mp hf).1
        rcases Nat.lt_or_ge m' iN with h1 | h1
        · rw [decide_eq_false (by omega), Bool.and_false] at this; cases this
        · exact h1
      refine ⟨_, rfl, cellsAll w13.r1, Take_spec w13.x ok (by omega) (by omega) (by omega) (fun k h1 h2 _ he => absurd (s.ok k (by omega)).1 he) (fun hno _ _ => absurd hfr (hno iN (by omega))) fun m' hm' hf hmin _ h15 F' f15 g15 x15 => ?_⟩
      have em : m' = iN := by
        have h1 := fm m' hf hm'
        rcases Nat.lt_or_ge iN m' with h2 | h2
        · exact absurd hfr (hmin iN h2)
        · omega
      subst em
      obtain ⟨t1, t2⟩ := (s.keysLe (ks' := bm n ++ (tk ++ [(m' : Int)])) fun x hx => by
        rcases List.mem_append.mp hx with hx | hx
        · exact List.mem_append_left _ hx
        · exact List.mem_append_right _ (List.mem_append_left _ hx)).take (m := m') hn i0 hi (List.mem_append_left _ (bm_mem (by omega))) (List.mem_append_right _ (List.mem_append_right _ (List.mem_singleton.mpr rfl))) (by rw [List.length_append, List.length_append, List.length_singleton]; omega)
      refine ⟨_, _, rfl, ?_⟩
      rw [t1]
      refine cf rfl (cn (fun hne => absurd rfl hne) fun _ => ?_)
      have hcnt := cntF_at (fl := fl) (i := m') (by omega)
      rw [ht, if_pos rfl, hc] at hcnt
      rw [wrap_i64 (n := (lN : Int) - 1) (by omega) (by omega), wrap_i64 (n := (m' : Int) + 1) (by omega) (by omega)]
      refine ⟨⟨lN - 1, m' + 1, F', _, tk ++ [(m' : Int)], updZ Z m' zeros512, by omega, by omega, by omega, by omega, by omega, by rw [List.length_append, List.length_singleton]; omega, ?_, fun j h1 h2 => ?_, w13.call f15 g15 x15⟩, by show ((n : Int) - ((m' : Int) + 1)).toNat < ((n : Int) - (m' : Int)).toNat; omega⟩
      · have t3 : St n (updB (fun j => !(fl.getD j false && decide (m' ≤ j))) m' true) (updZ Z m' zeros512) (bm n ++ (tk ++ [(m' : Int)])) (40 + 2 * (tk ++ [(m' : Int)]).length) (takeAt T (geoN n) m').1 := by
          rw [List.length_append, List.length_singleton]
          exact t2
        refine t3.eqU fun j hj => ?_
        unfold updB
        by_cases e : j = m'
        · subst e
          rw [if_pos rfl, decide_eq_false (by omega), Bool.and_false]; rfl
        · rw [if_neg e]
          have : decide (m' ≤ j) = decide (m' + 1 ≤ j) := decide_eq_decide.mpr (by omega)
          show (!(fl.getD j false && decide (m' ≤ j))) = _
          rw [this]
      · unfold updZ
        rw [if_neg (by omega)]; exact hZ j (by omega) h2
    · have hcnt := cntF_at (fl := fl) (i := iN) (by omega)
      rw [hf, hc] at hcnt
      rw [wrap_i64 (n := (iN : Int) + 1) (by omega) (by omega)]
      refine ⟨⟨lN, iN + 1, F, T, tk, Z, rfl, by omega, by omega, by omega, by simp at hcnt; omega, hlt, s.eqU fun j hj => ?_, fun j h1 h2 => hZ j (by omega) h2, w⟩, by show ((n : Int) - ((iN : Int) + 1)).toNat < ((n : Int) - (iN : Int)).toNat; omega⟩
      by_cases e : j = iN
      · subst e; rw [hf]; rfl
      · have : decide (iN ≤ j) = decide (iN + 1 ≤ j) := decide_eq_decide.mpr (by omega)
        rw [this]
  · have hl : lN = 0 := by omega
    rw [hl] at hc
    exact low_k4 hn w s (by omega) (fun j h1 h2 => by
      by_cases e : iN ≤ j
      · show (!(fl.getD j false && _)) = true
        rw [cntF_none hc j e]; rfl
      · show (!(_ && decide (iN ≤ j))) = true
        rw [decide_eq_false e, Bool.and_false]; rfl) hK
  · have hi : iN = n := by
      have : (geoN n).blocks = n := rfl
      omega
    exact low_k4 hn w s (by omega) (fun j h1 h2 => by
      show (!(_ && decide (iN ≤ j))) = true
      rw [decide_eq_false (by omega), Bool.and_false]; rfl) hK
theorem sl_from {h hh : Heap} {a : Option Addr} {xs : List Value} (B : SlCells h a xs) (f : Fr (fun b => h.size ≤ b) h hh) : SlCells hh a xs := by
  cases xs with
  | nil =>
    cases a with
    | none => rfl
    | some p => exact Cells.nil _ _
  | cons v r =>
    refine SlCells.fr f B fun p ep y => ?_
    subst ep
    have c := cellOf_some (show cellOf h p = some v by have := (show Cells h p (v :: r) from B) 0 v rfl; rw [Addr.add_zero] at this; exact this)
    have := rd_lt c.2
    have y : h.size ≤ p.block := y
    omega
theorem SpaceLowest_spec {n1 : Int} {gA : Option Addr} {gL gC : Nat} {xs : List Int} {h : Heap} {K : Value → Heap → Prop} (B : SlCells h gA (xs.map (.int .i64))) (hl : xs.length = gL) (hgl : gL ≤ 140737488355328) (hK : ∀ h', Fr No h h' → K (.bool true) h') : C.bolelaw09_SpaceLowest n1 gA gL gC h K := by
  refine bolelaw09_SpaceLowest.ok (mod_spec (by decide) (by decide) ⟨_, rfl, ?_⟩)
  generalize modI n1 200 = v
  refine NewRow.intro (cs := caseV v none 0 0 255 none 0 0) rfl (fun w hw => ?_) rfl fun h4 n4 => ?_
  · simp only [caseV, List.mem_cons, List.not_mem_nil, or_false] at hw
    rcases hw with rfl | rfl | rfl | rfl <;> rfl
  have z4 := n4.size
  refine ⟨caseV v none 0 0 255 none 0 0, rfl, cellsAll n4.rd, opened_spec (StrAt.nil _ _) (fun p e => by cases e) (by decide) (on255 _ _) fun F tb d T h5 f5 hF x5 O => ⟨_, _, rfl, ?_⟩⟩
  have hn := blkN_range v
  generalize blkN v = n at hn O ⊢
  have hdat : (geoN n).data = 98 + (n + 4095) / 4096 + n / 64 := rfl
  have hino : (geoN n).inodes = 98 + (n + 4095) / 4096 := rfl
  have hbl : (geoN n).blocks = n := rfl
  have ok := geoN_ok (n := n) (by omega)
  have hb3 := bm_len hn
  refine NewRow.intro rfl (G.one _) rfl fun h7 n7 => cf rfl ⟨_, rda n7.rd rfl, ?_⟩
  have z5 := f5.size
  have z7 := n7.size
  have en : Int.toNat (n : Int) = n := rfl
  rw [hbl, en]
  refine ⟨by omega, New.intro fun h8 n8 => ?_⟩
  have z8 := n8.size
  have w0 : Lw h.size h5.size h7.size (geoN n) (List.replicate n false) F (some ⟨tb, 0, none⟩) d T h h8 := by
    refine ⟨(x5.no n7.fr).no n8.fr, fun b hb => ?_, (n8.at_ (by omega)).trans n7.rd, ?_, n8.own, ?_, by omega⟩
    · have h1 := hF b hb
      have h2 := x5.lt hb
      omega
    · rw [n8.rd, List.map_replicate]; exact rep_one _ _
    · exact (((n4.fr.no f5).new n7).new n8).mono fun _ _ y => y.elim
  refine ⟨L1 n gL (some ⟨tb, 0, none⟩) d h h5.size h7.size, fun _ k _ => ((gL : Int) - k).toNat, ⟨0, 0, List.replicate n false, F, T, rfl, rfl, by omega, by omega, List.length_replicate, ?_, Nat.le_refl _, fun i hi => ?_, ?_, w0⟩, ?_⟩
  · rw [List.count_eq_zero]
    intro hm
    have := List.eq_of_mem_replicate hm
    cases this
  · rw [List.getD_eq_getElem?_getD, List.getElem?_replicate] at hi
    split at hi <;> cases hi
  · refine (O.st x5 (bm n)).eqU fun j hj => ?_
    rw [on255, List.getD_eq_getElem?_getD, List.getElem?_replicate]
    split <;> rfl
  rintro many k h9 ⟨kN, m, fl, F, T, rfl, rfl, k40, kg, hfl, hm, hmk, hd, s, w⟩
  have fin : bolelaw09_SpaceLowest.k1 h5 (some ⟨tb, 0, none⟩) h7 (n : Int) (m : Int) h9 K := low_k1 hn w hfl hm (by omega) hd ⟨s.live, s.N, s.bits, s.ok, s.data, s.keys, s.sub, by have := s.undo; omega⟩ hK
  refine cd (fun hk => ?_) fun _ => fin
  have hk : kN < xs.length := by omega
  have B9 : SlCells h9 gA (xs.map (.int .i64)) := sl_from B w.f
  obtain ⟨p, ep⟩ : ∃ p, gA = some p := by
    cases gA with
    | none =>
      have B : xs.map (Value.int .i64) = [] := B
      rw [List.map_eq_nil_iff.mp B] at hk; exact absurd hk (Nat.not_lt_zero _)
    | some p => exact ⟨p, rfl⟩
  subst ep
  have ek : Int.toNat (kN : Int) = kN := rfl
  rw [ek]
  have ck : cellOf h9 (p.add kN) = some (.int .i64 xs[kN]) := Cells.cell (show Cells h9 p _ from B9) (by rw [List.getElem?_map, List.getElem?_eq_getElem hk]; rfl)
  refine ⟨⟨by omega, by omega⟩, os ⟨_, ck, cd (fun _ => fin) fun h40 => ⟨_, rda w.r1 rfl, _, rda w.r1 rfl, _, rda w.r1 rfl, ?_⟩⟩⟩
  rw [hbl, wrap_i64 (n := (n : Int) - ((geoN n).data : Nat)) (by omega) (by omega)]
  have hr := modI_range (v := xs[kN]) (n := (n : Int) - ((geoN n).data : Nat)) (by omega)
  refine mod_spec (by omega) (by omega) ⟨_, rfl, rda w.r1 rfl, ?_⟩
  generalize modI xs[kN] ((n : Int) - ((geoN n).data : Nat)) = q at hr ⊢
  rw [wrap_i64 (n := (((geoN n).data : Nat) : Int) + q) (by omega) (by omega)]
  obtain ⟨i, ei⟩ : ∃ i : Nat, (((geoN n).data : Nat) : Int) + q = i := ⟨(geoN n).data + q.toNat, by omega⟩
  rw [ei]
  have ei2 : Int.toNat (i : Int) = i := rfl
  rw [ei2]
  have hi : i < n := by omega
  have hid : (geoN n).data ≤ i := by omega
  have cb : cellOf h9 (Addr.add ⟨h7.size, 0, none⟩ i) = some (.bool (fl.getD i false)) := by
    refine rda w.r2 ?_
    rw [Nat.zero_add, List.getElem?_map, List.getD_eq_getElem?_getD, List.getElem?_eq_getElem (by omega)]; rfl
  refine ⟨⟨by omega, by omega⟩, _, cb, ?_⟩
  have five : ∀ (m3 : Nat) (want : Int), (fl.getD i false = true ∧ m3 = m ∧ want = 91 ∨ fl.getD i false = false ∧ m3 = m + 1 ∧ want = 0) →
      bolelaw09_SpaceLowest.k5 h5 (some ⟨tb, 0, none⟩) h7 (n : Int) (m : Int) (kN : Int) h9 (L1 n gL (some ⟨tb, 0, none⟩) d h h5.size h7.size) (fun _ k _ => ((gL : Int) - k).toNat) ((geoN n).data : Nat) h9 q (m3 : Int) want K := by
    intro m3 want hc
    unfold bolelaw09_SpaceLowest.k5
    rw [wrap_i64 (n := (((geoN n).data : Nat) : Int) + q) (by omega) (by omega), ei, ei2, en]
    refine ⟨⟨by omega, by omega⟩, Put.add w.o2 (by rw [w.r2, List.length_map]; omega) fun h20 d20 => ?_⟩
    rw [Nat.zero_add] at d20
    have w20 := w.put d20
    have hu := s.undo
    refine ⟨_, rfl, cellsAll w20.r1, Give_spec w20.x ok (by omega) fun h21 F' f21 g21 x21 => ⟨_, rfl, ?_⟩⟩
    have w21 := w20.call f21 g21 x21
    obtain ⟨gv1, gv2⟩ := s.give (i := i) hn hid hi (bm_mem (by omega)) (by omega)
    rw [wrap_i64 (n := (kN : Int) + 1) (by omega) (by omega)]
    have fall : ((gL : Int) - ((kN : Int) + 1)).toNat < ((gL : Int) - (kN : Int)).toNat := by omega
    rcases hc with ⟨c1, rfl, rfl⟩ | ⟨c1, rfl, rfl⟩
    · have e := gv1 (by rw [c1]; rfl)
      rw [e] at w21 ⊢
      rw [set_same c1] at w21
      refine cf rfl ⟨⟨kN + 1, m3, fl, F', T, rfl, by omega, by omega, by omega, hfl, hm, by omega, hd, ⟨s.live, s.N, s.bits, s.ok, s.data, s.keys, s.sub, by omega⟩, w21⟩, fall⟩
    · obtain ⟨e1, e2⟩ := gv2 (by rw [c1]; rfl)
      rw [e1]
      refine cf rfl ⟨⟨kN + 1, m + 1, fl.set i true, F', _, rfl, by omega, by omega, by omega, by rw [List.length_set]; exact hfl, by rw [count_set (by omega) c1, hm], by omega, fun j hj => ?_, e2.eqU fun j hj => ?_, w21⟩, fall⟩
      · rw [getD_set _ _ _ _ (by omega)] at hj
        by_cases e : j = i
        · omega
        · rw [if_neg e] at hj; exact hd j hj
      · unfold updB
        rw [getD_set _ _ _ _ (by omega)]
        by_cases e : j = i
        · rw [if_pos e, if_pos e]; rfl
        · rw [if_neg e, if_neg e]
  refine cs (fun hb => five m 91 (.inl ⟨hb, rfl, rfl⟩)) fun hb => ?_
  have := five (m + 1) 0 (.inr ⟨hb, rfl, rfl⟩)
  rw [wrap_i64 (n := (m : Int) + 1) (by omega) (by omega)]
  exact this
end Go.Proofs.Ytgpkcakanieodaa.Spc
