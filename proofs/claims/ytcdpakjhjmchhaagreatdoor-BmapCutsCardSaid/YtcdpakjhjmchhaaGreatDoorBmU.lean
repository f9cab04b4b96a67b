import Derived.Test.YtcdpakjhjmchhaaGreatDoorBmR
/-
  WHICH BLOCKS A FILE HAS, plainly: what Cut leaves.
-/
namespace Go.Proofs.YtcdpakjhjmchhaaGreatDoor.Bm
open Go Go.Proofs Go.Proofs.YtcdpakjhjmchhaaGreatDoor.Wx Go.Proofs.YtcdpakjhjmchhaaGreatDoor.Hp Go.Proofs.YtcdpakjhjmchhaaGreatDoor.W Go.Proofs.YtcdpakjhjmchhaaGreatDoor.Ad Go.Proofs.YtcdpakjhjmchhaaGreatDoor.Tm Go.Proofs.YtcdpakjhjmchhaaGreatDoor.Bt Go.Proofs.YtcdpakjhjmchhaaGreatDoor.Spc Go.Proofs.YtcdpakjhjmchhaaGreatDoor.Re Go.Proofs.YtcdpakjhjmchhaaGreatDoor.Av

/-- the record under way -/
structure Rt (k : Nat) (Z : Nat → Txt) (R : List Int) (E : Nat → Prop) (R' : List Int) : Prop where
  len : R'.length = 15
  head : ∀ i, i < 3 → R'.getD i 0 = R.getD i 0
  root : ∀ s, s < nS → par s = none → (E s ∧ Dk Z R k s → Bm.root R' s = 0) ∧ (¬ (E s ∧ Dk Z R k s) → Bm.root R' s = Bm.root R s)
theorem Rt.grow {n k : Nat} {Z : Nat → Txt} {R R' : List Int} {E E' : Nat → Prop} (w : Wf n Z R) (r : Rt k Z R E R') (h1 : ∀ s, E s → E' s) (h2 : ∀ s, s < nS → par s = none → E' s → ¬ E s → num Z R s ≠ 0 → ¬ Dk Z R k s) : Rt k Z R E' R' := by
  refine ⟨r.len, r.head, fun s hs hp => ?_⟩
  obtain ⟨a, b⟩ := r.root s hs hp
  refine ⟨fun y => ?_, fun y => b fun z => y ⟨h1 s z.1, z.2⟩⟩
  by_cases he : E s
  · exact a ⟨he, y.2⟩
  · rw [b fun z => he z.1, root_num w hs hp]
    by_cases h0 : num Z R s = 0
    · rw [h0]; rfl
    · exact absurd y.2 (h2 s hs hp y.1 he h0)
theorem Rt.iff {k : Nat} {Z : Nat → Txt} {R R' : List Int} {E E' : Nat → Prop} (r : Rt k Z R E R') (h : ∀ s, s < nS → par s = none → (E s ↔ E' s)) : Rt k Z R E' R' :=
  ⟨r.len, r.head, fun s hs hp => by rw [← h s hs hp]; exact r.root s hs hp⟩
theorem root_dir {R : List Int} {i : Nat} (hi : i < 10) : root R i = R.getD (3 + i) 0 := if_pos hi
theorem root_one (R : List Int) : root R 16522 = R.getD 13 0 := rfl
theorem root_two (R : List Int) : root R 16523 = R.getD 14 0 := rfl
theorem setRoot_head {R : List Int} {s : Nat} {v : Int} {i : Nat} (hl : R.length = 15) (hs : s < 10 ∨ s = 16522 ∨ s = 16523) (hi : i < 3) : (setRoot R s v).getD i 0 = R.getD i 0 := by
  unfold setRoot
  split
  · rw [getD_set _ _ _ _ _ (by omega), if_neg (by omega)]
  · split
    · rw [getD_set _ _ _ _ _ (by omega), if_neg (by omega)]
    · rw [getD_set _ _ _ _ _ (by omega), if_neg (by omega)]
theorem setRoot_len {R : List Int} {s : Nat} {v : Int} : (setRoot R s v).length = R.length := by
  unfold setRoot
  split
  · exact List.length_set
  · split
    · exact List.length_set
    · exact List.length_set
theorem Rt.set {k : Nat} {Z : Nat → Txt} {R R' : List Int} {E : Nat → Prop} (r : Rt k Z R E R') {s : Nat} (hp : par s = none) (hD : Dk Z R k s) : Rt k Z R (fun x => E x ∨ x = s) (setRoot R' s 0) := by
  refine ⟨setRoot_len.trans r.len, fun i hi => (setRoot_head r.len (par_none hp) hi).trans (r.head i hi), fun x hx hpx => ?_⟩
  rw [root_set r.len hp hpx]
  obtain ⟨a, b⟩ := r.root x hx hpx
  by_cases e : x = s
  · rw [if_pos e]
    exact ⟨fun _ => rfl, fun y => absurd ⟨.inr e, e ▸ hD⟩ y⟩
  · rw [if_neg e]
    exact ⟨fun y => a ⟨y.1.resolve_right e, y.2⟩, fun y => b fun z => y ⟨.inl z.1, z.2⟩⟩
abbrev No' : Nat → Prop := fun _ => False
theorem dirGo_ok {n k : Nat} {Z : Nat → Txt} {R W : List Int} {T0 Tb : TM} (C : Cx n k Z R W) : ∀ (m i : Nat) (T : TM) (R' : List Int) (Z' : Nat → Txt), i + m = 10 → k ≤ i → St n k Z R W (fun s => s < i) No' T0 Tb Z' T → Rt k Z R (fun s => s < i) R' →
    ((dirGo (geoN n) (List.range' i m) T R').2 = 60 ∧ Ext T0 (dirGo (geoN n) (List.range' i m) T R').1.1 ∧ (96 ≤ (Av.ks Tb).length + W.length ∧ Som k Z R)) ∨
    ((dirGo (geoN n) (List.range' i m) T R').2 = 0 ∧ ∃ Z'', St n k Z R W (fun s => s < 10) No' T0 Tb Z'' (dirGo (geoN n) (List.range' i m) T R').1.1 ∧ Rt k Z R (fun s => s < 10) (dirGo (geoN n) (List.range' i m) T R').1.2 ∧
      ((∀ x, x < 10 → num Z R x ≠ 0 → ¬ Dk Z R k x) → (dirGo (geoN n) (List.range' i m) T R').1 = (T, R')))
  | 0, i, T, R', Z', hi, _, st, rt => by
    have : i = 10 := hi
    subst this
    exact .inr ⟨rfl, Z', st, rt, fun _ => rfl⟩
  | m + 1, i, T, R', Z', hi, hk, st, rt => by
    have hi10 : i < 10 := by omega
    have hs : i < nS := by unfold nS; omega
    have hp : par i = none := by unfold par; rw [if_pos hi10]
    have ev : R'.getD (3 + i) 0 = ((num Z R i : Nat) : Int) := by
      rw [← root_dir hi10, (rt.root i hs hp).2 (fun y => absurd y.1 (Nat.lt_irrefl _)), root_num C.w hs hp]
    rw [show List.range' i (m + 1) = i :: List.range' (i + 1) m from rfl]
    unfold dirGo
    rw [ev]
    by_cases h0 : num Z R i = 0
    · rw [if_pos (by omega)]
      exact dirGo_ok C m (i + 1) T R' Z' (by omega) (by omega) (st.grow (fun s y => by have y : s < i := y; show s < i + 1; omega) fun s _ y hn hz => by
        have y : s < i + 1 := y
        have hn : ¬ s < i := hn
        have : s = i := by omega
        exact absurd (this ▸ h0) hz) (rt.grow C.w (fun s y => by have y : s < i := y; show s < i + 1; omega) fun s _ _ y hn hz => by
        have y : s < i + 1 := y
        have hn : ¬ s < i := hn
        have : s = i := by omega
        exact absurd (this ▸ h0) hz)
    · rw [if_neg (by omega), giveF_give C hs h0]
      have hD : Dk Z R k i := (dk_data (by omega)).mpr hk
      rcases give_ok C st hs h0 (Nat.lt_irrefl _) hD (fun q p e => by rw [hp] at e; cases e) with ⟨e, st'⟩ | ⟨e, x, h⟩
      · rw [if_neg (fun y => y e)]
        have es : R'.set (3 + i) 0 = setRoot R' i 0 := by unfold setRoot; rw [if_pos hi10]
        rw [es]
        have lt : ∀ s, (s < i ∨ s = i) ↔ s < i + 1 := fun s => by omega
        rcases dirGo_ok C m (i + 1) _ _ _ (by omega) (by omega) (st'.iff (fun s _ => lt s) fun _ => ⟨fun y => y.1, fun y => y.elim⟩) ((rt.set hp hD).iff fun s _ _ => lt s) with y | ⟨y1, Z3, y2, y3, y4⟩
        · exact .inl y
        · exact .inr ⟨y1, Z3, y2, y3, fun h => absurd hD (h i hi10 h0)⟩
      · rw [if_pos (nz60 e)]
        exact .inl ⟨e, x, h⟩
theorem rootEnd_ok {n k : Nat} {Z : Nat → Txt} {R R' W : List Int} {E P : Nat → Prop} {T0 Tb T : TM} (_ : Cx n k Z R W) {q i : Nat} (hq : q = 16522 ∧ i = 13 ∨ q = 16523 ∧ i = 14) (rt : Rt k Z R E R') (hE : ¬ E q) {c : TM × Bool × Int} (o : Out n k Z R W E P T0 Tb q T (c.1, !c.2.1, c.2.2)) (h0 : num Z R q ≠ 0) :
    ((rootEnd i R' c).2 = 60 ∧ Ext T0 (rootEnd i R' c).1.1 ∧ (96 ≤ (Av.ks Tb).length + W.length ∧ Som k Z R)) ∨
    ((rootEnd i R' c).2 = 0 ∧ ∃ Z'', St n k Z R W (fun s => E s ∨ Sub q s) P T0 Tb Z'' (rootEnd i R' c).1.1 ∧ Rt k Z R (fun s => E s ∨ Sub q s) (rootEnd i R' c).1.2 ∧ ((∀ x, Sub q x → num Z R x ≠ 0 → ¬ Dk Z R k x) → (rootEnd i R' c).1 = (T, R'))) := by
  have hp : par q = none := by rcases hq with ⟨rfl, _⟩ | ⟨rfl, _⟩ <;> rfl
  have sr : ∀ s, Sub q s → par s = none → s = q := fun s hs e => by
    have b := par_none e
    rcases hq with ⟨rfl, _⟩ | ⟨rfl, _⟩
    · rw [sub_one] at hs; omega
    · rw [sub_two] at hs; omega
  unfold rootEnd
  rcases o with ⟨Z'', e1, e2, st', e4⟩ | ⟨e1, e2, e3⟩
  · have e1 : c.2.2 = 0 := e1
    have e2 : (!c.2.1) = true ↔ Dk Z R k q := e2
    rw [if_neg (fun y => y e1)]
    refine .inr ⟨rfl, Z'', st', ?_, fun h => ?_⟩
    · show Rt k Z R _ (if c.2.1 = true then R' else R'.set i 0)
      cases hl : c.2.1 with
      | true =>
        rw [if_pos rfl]
        have hD : ¬ Dk Z R k q := fun y => by have := e2.mpr y; rw [hl] at this; cases this
        refine ⟨rt.len, rt.head, fun s hs hps => ?_⟩
        obtain ⟨a, b⟩ := rt.root s hs hps
        refine ⟨fun y => a ⟨?_, y.2⟩, fun y => b fun z => y ⟨.inl z.1, z.2⟩⟩
        rcases y.1 with z | z
        · exact z
        · exact absurd (sr s z hps ▸ y.2) hD
      | false =>
        rw [if_neg (fun y => by cases y)]
        have hD : Dk Z R k q := e2.mp (by rw [hl]; rfl)
        have es : R'.set i 0 = setRoot R' q 0 := by rcases hq with ⟨rfl, rfl⟩ | ⟨rfl, rfl⟩ <;> rfl
        rw [es]
        refine (rt.set hp hD).iff fun s _ hps => ⟨fun y => y.elim .inl fun z => .inr (z ▸ sub_self _), fun y => y.elim .inl fun z => .inr (sr s z hps)⟩
    · have hD : ¬ Dk Z R k q := h q (sub_self q) h0
      have hl : c.2.1 = true := by
        cases hl : c.2.1 with
        | true => rfl
        | false => exact absurd (e2.mp (by rw [hl]; rfl)) hD
      show (c.1, if c.2.1 = true then R' else R'.set i 0) = (T, R')
      rw [if_pos hl]
      have : c.1 = T := e4 h
      rw [this]
  · have e1 : c.2.2 = 60 := e1
    rw [if_pos (nz60 e1)]
    exact .inl ⟨e1, e2, e3⟩
def E1 : Nat → Prop := fun s => s < 10
def E2 : Nat → Prop := fun s => E1 s ∨ Sub 16522 s
def E3 : Nat → Prop := fun s => E2 s ∨ Sub 16523 s
theorem oneM_ok {n k : Nat} {Z Z' : Nat → Txt} {R R' W : List Int} {T0 Tb T : TM} (C : Cx n k Z R W) (st : St n k Z R W E1 No' T0 Tb Z' T) (rt : Rt k Z R E1 R') :
    ((oneM (geoN n) k T R').2 = 60 ∧ Ext T0 (oneM (geoN n) k T R').1.1 ∧ (96 ≤ (Av.ks Tb).length + W.length ∧ Som k Z R)) ∨
    ((oneM (geoN n) k T R').2 = 0 ∧ ∃ Z'', St n k Z R W E2 No' T0 Tb Z'' (oneM (geoN n) k T R').1.1 ∧ Rt k Z R E2 (oneM (geoN n) k T R').1.2 ∧ ((∀ x, x < nS → num Z R x ≠ 0 → ¬ Dk Z R k x) → (oneM (geoN n) k T R').1 = (T, R'))) := by
  have hq : 16522 < nS := by decide
  have hnE : ∀ s, Sub 16522 s → ¬ E1 s := fun s h y => by rw [sub_one] at h; have y : s < 10 := y; omega
  have ev : R'.getD 13 0 = ((num Z R 16522 : Nat) : Int) := by
    rw [← root_one, (rt.root 16522 hq rfl).2 (fun y => hnE _ (sub_self _) y.1), root_num C.w hq rfl]
  have skip : (∀ s, Sub 16522 s → num Z R s ≠ 0 → ¬ Dk Z R k s) → ∃ Z'', St n k Z R W E2 No' T0 Tb Z'' T ∧ Rt k Z R E2 R' := fun h =>
    ⟨Z', st.grow (fun s y => .inl y) (fun s _ y hn hz => h s (y.resolve_left hn) hz), rt.grow C.w (fun s y => .inl y) fun s _ _ y hn hz => h s (y.resolve_left hn) hz⟩
  unfold oneM
  rw [ev]
  by_cases hc : (k : Int) < 138 ∧ ((num Z R 16522 : Nat) : Int) ≠ 0
  · rw [if_pos hc]
    have h0 : num Z R 16522 ≠ 0 := fun y => hc.2 (by rw [y]; rfl)
    have o := cutT_ok C (Nat.le_refl 16522) hq h0 (from_ := (k : Int) - 10) (dM := leafD (geoN n)) hnE (fun y => y) (fun q' p e => by cases e) (fun _ _ _ _ _ _ _ _ => C.one) (fun i hi hf s hs _ hD => by
      rw [ch_one, sub_leaf (by omega)] at hs
      rw [hs, dk_data (by omega)] at hD
      omega) (fun i hi hf hz E' Z3 T' hE' st' => by
      rw [ch_one] at hz hE' ⊢
      refine leaf_ok C st' (by omega) hz (hE' _ (sub_self _)) (by omega) (fun x y => y.elim (fun z => z.elim) fun z => by omega) (fun q p e => ?_) i
      have := (ch_par (Nat.le_refl 16522) hq hi).1
      rw [ch_one] at this
      rw [this] at e; cases e; exact .inr rfl) st
    rcases rootEnd_ok C (.inl ⟨rfl, rfl⟩) rt (hnE _ (sub_self _)) o h0 with y | ⟨y1, Z3, y2, y3, y4⟩
    · exact .inl y
    · exact .inr ⟨y1, Z3, y2, y3, fun h => y4 fun x hx => h x (sub_lt hq hx)⟩
  · rw [if_neg hc]
    have sk : ∀ s, Sub 16522 s → num Z R s ≠ 0 → ¬ Dk Z R k s := by
      by_cases h0 : num Z R 16522 = 0
      · exact fun s hs hz => absurd (sub_zero hq h0 s hs) hz
      · exact dk_low C.tg hq fun x hx _ => by
          rw [sub_one] at hx
          have : ¬ (k : Int) < 138 := fun y => hc ⟨y, by omega⟩
          omega
    obtain ⟨Z3, y2, y3⟩ := skip sk
    exact .inr ⟨rfl, Z3, y2, y3, fun _ => rfl⟩
theorem twoM_ok {n k : Nat} {Z Z' : Nat → Txt} {R R' W : List Int} {T0 Tb T : TM} (C : Cx n k Z R W) (st : St n k Z R W E2 No' T0 Tb Z' T) (rt : Rt k Z R E2 R') :
    ((twoM (geoN n) k T R').2 = 60 ∧ Ext T0 (twoM (geoN n) k T R').1.1 ∧ (96 ≤ (Av.ks Tb).length + W.length ∧ Som k Z R)) ∨
    ((twoM (geoN n) k T R').2 = 0 ∧ ∃ Z'', St n k Z R W E3 No' T0 Tb Z'' (twoM (geoN n) k T R').1.1 ∧ Rt k Z R E3 (twoM (geoN n) k T R').1.2 ∧ ((∀ x, x < nS → num Z R x ≠ 0 → ¬ Dk Z R k x) → (twoM (geoN n) k T R').1 = (T, R'))) := by
  have hq : 16523 < nS := by decide
  have hnE : ∀ s, Sub 16523 s → ¬ E2 s := fun s h y => by
    rw [sub_two] at h
    rcases y with y | y
    · have y : s < 10 := y; omega
    · rw [sub_one] at y; omega
  have ev : R'.getD 14 0 = ((num Z R 16523 : Nat) : Int) := by
    rw [← root_two, (rt.root 16523 hq rfl).2 (fun y => hnE _ (sub_self _) y.1), root_num C.w hq rfl]
  have skip : (∀ s, Sub 16523 s → num Z R s ≠ 0 → ¬ Dk Z R k s) → ∃ Z'', St n k Z R W E3 No' T0 Tb Z'' T ∧ Rt k Z R E3 R' := fun h =>
    ⟨Z', st.grow (fun s y => .inl y) (fun s _ y hn hz => h s (y.resolve_left hn) hz), rt.grow C.w (fun s y => .inl y) fun s _ _ y hn hz => h s (y.resolve_left hn) hz⟩
  unfold twoM
  rw [ev]
  by_cases hc : (k : Int) < 16522 ∧ ((num Z R 16523 : Nat) : Int) ≠ 0
  · rw [if_pos hc]
    have h0 : num Z R 16523 ≠ 0 := fun y => hc.2 (by rw [y]; rfl)
    have hf : firstM k = ((k - 138 : Nat) : Int) := by
      unfold firstM
      split <;> omega
    have o := cutT_ok C (show 16522 ≤ 16523 by decide) hq h0 (from_ := firstM k / 128) (dM := tabD (geoN n) (firstM k)) hnE (fun y => y) (fun q' p e => by cases e) (fun _ _ _ _ _ _ _ _ => C.two) (fun i hi hfi => by
      rw [hf] at hfi
      rw [ch_two]
      exact dk_low C.tg (by unfold nS; omega) fun x hx hx2 => by rw [sub_tab] at hx; omega) (fun i hi hfi hz E' Z3 T' hE' st' => by
      rw [hf] at hfi
      rw [ch_two] at hz hE' ⊢
      have hqi : 16524 + i < nS := by unfold nS; omega
      have pi : par (16524 + i) = some (16523, i) := par_table hi
      refine cutT_ok C (show 16522 ≤ 16524 + i by omega) hqi hz (from_ := firstM k - 128 * (i : Int)) (dM := leafD (geoN n)) hE' (fun y => y.elim (fun z => z) fun z => by omega) (fun q' p e => by rw [pi] at e; cases e; exact .inr rfl) (fun a b ha hb _ a1 _ b1 => ?_) (fun a ha hfa s hs _ hD => ?_) (fun a ha hfa hza E3 Z4 T3 hE3 st3 => ?_) st'
      · rw [ch_tab] at a1 b1
        rw [dk_data (by omega)] at a1 b1
        have : i = (k - 138) / 128 := by omega
        rw [this]; exact C.tab
      · rw [hf] at hfa
        rw [ch_tab, sub_leaf (by omega)] at hs
        rw [hs, dk_data (by omega)] at hD
        omega
      · rw [hf] at hfa
        have pc := (ch_par (show 16522 ≤ 16524 + i by omega) hqi ha).1
        rw [ch_tab] at hza hE3 pc ⊢
        exact leaf_ok C st3 (by omega) hza (hE3 _ (sub_self _)) (by omega) (fun x (y : (No' x ∨ x = 16523) ∨ x = 16524 + i) => y.elim (fun z => z.elim (fun w => w.elim) fun w => by omega) fun z => by omega) (fun q p e => by rw [pc] at e; cases e; exact .inr rfl) a) st
    rcases rootEnd_ok C (.inr ⟨rfl, rfl⟩) rt (hnE _ (sub_self _)) o h0 with y | ⟨y1, Z3, y2, y3, y4⟩
    · exact .inl y
    · exact .inr ⟨y1, Z3, y2, y3, fun h => y4 fun x hx => h x (sub_lt hq hx)⟩
  · rw [if_neg hc]
    have sk : ∀ s, Sub 16523 s → num Z R s ≠ 0 → ¬ Dk Z R k s := by
      by_cases h0 : num Z R 16523 = 0
      · exact fun s hs hz => absurd (sub_zero hq h0 s hs) hz
      · exact dk_low C.tg hq fun x hx hx2 => by
          have : ¬ (k : Int) < 16522 := fun y => hc ⟨y, by omega⟩
          omega
    obtain ⟨Z3, y2, y3⟩ := skip sk
    exact .inr ⟨rfl, Z3, y2, y3, fun _ => rfl⟩
theorem e3_all {s : Nat} (hs : s < nS) : E3 s := by
  unfold nS at hs
  by_cases h1 : s < 10
  · exact .inl (.inl h1)
  · by_cases h2 : s < 138 ∨ s = 16522
    · exact .inl (.inr (sub_one.mpr (by omega)))
    · exact .inr (sub_two.mpr (by unfold nS; omega))
/-- what Cut at k leaves -/
structure Cutd (n k : Nat) (Z : Nat → Txt) (R : List Int) (Z' : Nat → Txt) (R' : List Int) : Prop where
  w : Wf n Z' R'
  tg : Tight Z' R'
  gone : ∀ s, s < nS → Dk Z R k s → num Z' R' s = 0
  kept : ∀ s, s < nS → ¬ Dk Z R k s → num Z' R' s = num Z R s
  bits : ∀ j, 98 + j / 4096 < (geoN n).inodes → (bit Z' j = true ↔ bit Z j = true ∧ ∀ s, s < nS → Dk Z R k s → num Z R s ≠ 0 → num Z R s ≠ j)
  head : ∀ i, i < 3 → R'.getD i 0 = R.getD i 0
  cont : ∀ b, b < n → (geoN n).inodes ≤ b → (∀ q, 16522 ≤ q → q < nS → num Z R q ≠ 0 → b ≠ num Z R q) → Z' b = Z b
theorem cutd_of {n k : Nat} {Z Z' : Nat → Txt} {R R' W : List Int} (C : Cx n k Z R W) (c : Ct n k Z R E3 No' Z') (rt : Rt k Z R E3 R') : Cutd n k Z R Z' R' := by
  have w := C.w
  have N : ∀ s, s < nS → (Dk Z R k s → num Z' R' s = 0) ∧ (¬ Dk Z R k s → num Z' R' s = num Z R s) := by
    refine slots (fun s hs e => ?_) fun s q p hs e ih => ?_
    · rw [num_none e, num_none e]
      obtain ⟨a, b⟩ := rt.root s hs e
      exact ⟨fun y => by rw [a ⟨e3_all hs, y⟩]; rfl, fun y => by rw [b fun z => y z.2]⟩
    · obtain ⟨rfl, hp, h1, h2⟩ := par_ch e hs
      rw [num_some e hs]
      by_cases hD : Dk Z R k q
      · rw [ih.1 hD]
        refine ⟨fun _ => rfl, fun y => ?_⟩
        show 0 = _
        exact (Classical.byContradiction fun z => y ((dk_ch h1 h2).mp hD p hp fun t => z t.symm))
      · rw [ih.2 hD]
        by_cases h0 : num Z R q = 0
        · rw [ch_num h1 h2 hp, h0]; exact ⟨fun _ => rfl, fun _ => rfl⟩
        · obtain ⟨a, b⟩ := c.tabs q p h1 h2 h0 (fun y => y) hp fun y => hD y.2
          unfold sub
          rw [if_neg h0, ch_num' h1 h2 hp h0]
          exact ⟨fun y => a ⟨e3_all hs, y⟩, fun y => b fun z => y z.2⟩
  have bits : ∀ j, 98 + j / 4096 < (geoN n).inodes → (bit Z' j = true ↔ bit Z j = true ∧ ∀ s, s < nS → Dk Z R k s → num Z R s ≠ 0 → num Z R s ≠ j) := fun j hj => by
    rw [c.bits j hj]
    exact ⟨fun y => ⟨y.1, fun s hs => y.2 s hs (e3_all hs)⟩, fun y => ⟨y.1, fun s hs _ => y.2 s hs⟩⟩
  have nd : ∀ s, s < nS → num Z' R' s ≠ 0 → ¬ Dk Z R k s := fun s hs h y => h ((N s hs).1 y)
  have rr : ∀ s, s < nS → par s = none → 0 ≤ root R' s := fun s hs e => by
    obtain ⟨a, b⟩ := rt.root s hs e
    by_cases hD : Dk Z R k s
    · rw [a ⟨e3_all hs, hD⟩]; exact Int.le_refl _
    · rw [b fun z => hD z.2, root_num w hs e]; omega
  refine ⟨⟨rt.len, fun i h1 h2 => ?_, fun s hs h0 => ?_, fun s s' hs hs' h0 e => ?_⟩, fun q h1 h2 h0 => ?_, fun s hs => (N s hs).1, fun s hs => (N s hs).2, bits, rt.head, c.cont⟩
  · by_cases e : i < 13
    · have := rr (i - 3) (by unfold nS; omega) (by unfold par; rw [if_pos (by omega)])
      rw [root_dir (by omega), show 3 + (i - 3) = i by omega] at this; exact this
    · by_cases e : i = 13
      · subst e; exact rr 16522 (by decide) rfl
      · have : i = 14 := by omega
        subst this; exact rr 16523 (by decide) rfl
  · have hD := nd s hs h0
    have es := (N s hs).2 hD
    rw [es] at h0 ⊢
    obtain ⟨r1, r2, r3⟩ := w.rng s hs h0
    refine ⟨r1, r2, (bits _ (C.d.map r2).2.1).mpr ⟨r3, fun s' hs' hD' h0' e => hD (w.inj s' s hs' hs h0' e ▸ hD')⟩⟩
  · have hD := nd s hs h0
    have hD' := nd s' hs' (e ▸ h0)
    rw [(N s hs).2 hD, (N s' hs').2 hD'] at e
    rw [(N s hs).2 hD] at h0
    exact w.inj s s' hs hs' h0 e
  · have hD := nd q h2 h0
    rw [dk_tab h1] at hD
    obtain ⟨x, hx⟩ := Classical.not_forall.mp hD
    obtain ⟨a, hx⟩ := Classical.not_forall.mp hx
    obtain ⟨b, hx⟩ := Classical.not_forall.mp hx
    obtain ⟨e, hx⟩ := Classical.not_forall.mp hx
    obtain ⟨sx, hx2⟩ := data_sub h1 h2 a b
    refine ⟨x, a, b, ?_⟩
    rw [(N x (by unfold nS; omega)).2 (by rw [dk_data hx2]; omega)]; exact hx
theorem cutS_ok {n k : Nat} {Z : Nat → Txt} {R W : List Int} {T0 T : TM} (C : Cx n k Z R W) (a : Av n Z T) (x : Ext T0 T) :
    ((cutS (geoN n) k T R).2 = 60 ∧ Ext T0 (cutS (geoN n) k T R).1.1 ∧ (96 ≤ (Av.ks T).length + W.length ∧ Som k Z R)) ∨
    ((cutS (geoN n) k T R).2 = 0 ∧ ∃ Z', Av n Z' (cutS (geoN n) k T R).1.1 ∧ Cutd n k Z R Z' (cutS (geoN n) k T R).1.2 ∧ Ext T0 (cutS (geoN n) k T R).1.1 ∧ KsOk T (cutS (geoN n) k T R).1.1 W ∧ ((∀ x, x < nS → num Z R x ≠ 0 → ¬ Dk Z R k x) → (cutS (geoN n) k T R).1 = (T, R))) := by
  have st0 : St n k Z R W No' No' T0 T Z T := ⟨a, Ct.nil n k Z R, x, fun x hx => .inl hx⟩
  have rt0 : Rt k Z R No' R := ⟨C.w.rl, fun _ _ => rfl, fun s _ _ => ⟨fun y => y.1.elim, fun _ => rfl⟩⟩
  have dirs : ((dirGo (geoN n) (dirsM k) T R).2 = 60 ∧ Ext T0 (dirGo (geoN n) (dirsM k) T R).1.1 ∧ (96 ≤ (Av.ks T).length + W.length ∧ Som k Z R)) ∨
    ((dirGo (geoN n) (dirsM k) T R).2 = 0 ∧ ∃ Z'', St n k Z R W (fun s => s < 10) No' T0 T Z'' (dirGo (geoN n) (dirsM k) T R).1.1 ∧ Rt k Z R (fun s => s < 10) (dirGo (geoN n) (dirsM k) T R).1.2 ∧
      ((∀ x, x < 10 → num Z R x ≠ 0 → ¬ Dk Z R k x) → (dirGo (geoN n) (dirsM k) T R).1 = (T, R))) := by
    have ed : dirsM k = List.range' k (10 - k) := rfl
    have low : ∀ m, m ≤ k → m < 16522 → ∀ s, s < m → ¬ Dk Z R k s := fun m h1 h2 s hs hD => by rw [dk_data (by omega)] at hD; omega
    by_cases hk : k < 10
    · rw [ed]
      exact dirGo_ok C (10 - k) k T R Z (by omega) (Nat.le_refl _) (st0.grow (fun s y => y.elim) fun s _ y _ _ => low k (Nat.le_refl _) (by omega) s y) (rt0.grow C.w (fun s y => y.elim) fun s _ _ y _ _ => low k (Nat.le_refl _) (by omega) s y)
    · rw [ed, show 10 - k = 0 by omega]
      exact .inr ⟨rfl, Z, st0.grow (fun s y => y.elim) fun s _ y _ _ => low 10 (by omega) (by omega) s y, rt0.grow C.w (fun s y => y.elim) fun s _ _ y _ _ => low 10 (by omega) (by omega) s y, fun _ => rfl⟩
  unfold cutS
  rcases dirs with ⟨e, h⟩ | ⟨e, Z1, st1, rt1, nf1⟩
  · rw [if_pos (nz60 e)]
    exact .inl ⟨e, h⟩
  rw [if_neg (fun y => y e)]
  rcases oneM_ok C st1 rt1 with ⟨e2, h⟩ | ⟨e2, Z2, st2, rt2, nf2⟩
  · rw [if_pos (nz60 e2)]
    exact .inl ⟨e2, h⟩
  rw [if_neg (fun y => y e2)]
  rcases twoM_ok C st2 rt2 with ⟨e3, h⟩ | ⟨e3, Z3, st3, rt3, nf3⟩
  · exact .inl ⟨e3, h⟩
  refine .inr ⟨e3, Z3, st3.a, cutd_of C st3.c rt3, st3.x, st3.ks, fun h => ?_⟩
  rw [nf3 h]
  show ((oneM (geoN n) k (dirGo (geoN n) (dirsM k) T R).1.1 (dirGo (geoN n) (dirsM k) T R).1.2).1.1, (oneM (geoN n) k (dirGo (geoN n) (dirsM k) T R).1.1 (dirGo (geoN n) (dirsM k) T R).1.2).1.2) = (T, R)
  have e1 := nf1 fun x hx => h x (by unfold nS; omega)
  have e2' := nf2 h
  rw [e1] at e2' ⊢
  rw [e2']
end Go.Proofs.YtcdpakjhjmchhaaGreatDoor.Bm
/-
  WHICH BLOCKS A FILE HAS, plainly: Add and Cut as wholes; how many blocks are free.
-/
namespace Go.Proofs.YtcdpakjhjmchhaaGreatDoor.Bm
open Go Go.Proofs Go.Proofs.YtcdpakjhjmchhaaGreatDoor.Wx Go.Proofs.YtcdpakjhjmchhaaGreatDoor.Hp Go.Proofs.YtcdpakjhjmchhaaGreatDoor.W Go.Proofs.YtcdpakjhjmchhaaGreatDoor.Ad Go.Proofs.YtcdpakjhjmchhaaGreatDoor.Tm Go.Proofs.YtcdpakjhjmchhaaGreatDoor.Bt Go.Proofs.YtcdpakjhjmchhaaGreatDoor.Spc Go.Proofs.YtcdpakjhjmchhaaGreatDoor.Re Go.Proofs.YtcdpakjhjmchhaaGreatDoor.Av

def wOf (k : Nat) (Z : Nat → Txt) (R : List Int) : List Int := [98, 99, 100, 101, ((num Z R 16522 : Nat) : Int), ((num Z R 16523 : Nat) : Int), ((num Z R (16524 + (k - 138) / 128) : Nat) : Int)]
theorem cx_of {n k : Nat} {Z : Nat → Txt} {R : List Int} (d : Dim n) (w : Wf n Z R) (tg : Tight Z R) : Cx n k Z R (wOf k Z R) := by
  have hhi := d.hi
  refine ⟨d, w, tg, fun j hj => ?_, by simp [wOf], by simp [wOf], by simp [wOf]⟩
  have : j / 4096 = 0 ∨ j / 4096 = 1 ∨ j / 4096 = 2 ∨ j / 4096 = 3 := by omega
  rcases this with e | e | e | e <;> rw [e] <;> simp [wOf]
/-- Cut -/
theorem cut_ok {n k : Nat} {Z : Nat → Txt} {R : List Int} {T : TM} (d : Dim n) (a : Av n Z T) (w : Wf n Z R) (tg : Tight Z R) (hk : k ≤ 16522) :
    (cutM T (geoN n) R k = (T, z15, 60) ∧ 96 ≤ (ks T).length + 7 ∧ Som k Z R) ∨
    ∃ T' R' Z', cutM T (geoN n) R k = (T', R', 0) ∧ Av n Z' T' ∧ Cutd n k Z R Z' R' ∧ Ext T T' ∧ KsOk T T' (wOf k Z R) ∧ ((∀ x, x < nS → num Z R x ≠ 0 → ¬ Dk Z R k x) → T' = T ∧ R' = R) := by
  unfold cutM
  rw [if_neg (by omega)]
  rcases cutS_ok (cx_of (k := k) d w tg) a (Ext.refl T) with ⟨e, x, h⟩ | ⟨e, Z', a', c', x', k', nf⟩
  · rw [if_pos (nz60 e), x.back a.live, e]
    exact .inl ⟨rfl, h⟩
  · rw [if_neg (fun y => y e)]
    refine .inr ⟨_, _, Z', rfl, a', c', x', k', fun h => ?_⟩
    have := nf h
    rw [this]; exact ⟨rfl, rfl⟩
/-- Add -/
theorem add_ok {n k : Nat} {Z : Nat → Txt} {R : List Int} {T : TM} (d : Dim n) (a : Av n Z T) (w : Wf n Z R) (hk : k < 16522) :
    (addM T (geoN n) R k = (T, z15, 0, 60) ∧ 96 ≤ (ks T).length + 9) ∨ (addM T (geoN n) R k = (T, z15, 0, 90) ∧ frees n Z < miss Z R (path k)) ∨
    ∃ T' R' Z', addM T (geoN n) R k = (T', R', ((num Z' R' k : Nat) : Int), 0) ∧ Av n Z' T' ∧ Added n Z R none (path k) Z' R' ∧ (miss Z R (path k) = 0 → T' = T) ∧ (∀ x ∈ ks T', x ∈ ks T ∨ x < (geoN n).inodes ∨ ∃ s ∈ path k, x = ((num Z' R' s : Nat) : Int)) ∧ (∀ x ∈ ks T, x ∈ ks T') ∧ ∀ s ∈ path k, num Z R s = 0 → ((num Z' R' s : Nat) : Int) ∈ ks T' := by
  obtain ⟨c, e⟩ := path_chain hk
  unfold addM
  rw [if_neg (by omega), Int.toNat_natCast, ← e]
  have hl : (path k).length ≤ 3 := by
    unfold path
    split
    · simp
    · split <;> simp
  obtain ⟨o, x⟩ := walkA_ok d (path k) none Z T T R a w c (fun q y => by cases y) (Ext.refl T)
  have ea : at_ Z R none = 0 := rfl
  rw [ea] at o x
  rcases o with ⟨Z', e1, a', ad, nf, kk, lk1, lk2⟩ | ⟨e1, h⟩ | ⟨e1, h⟩
  · rw [if_neg (fun y => y (by rw [e1]))]
    refine .inr (.inr ⟨_, _, Z', ?_, a', ad, nf, fun x hx => ?_, lk1, lk2⟩)
    · rw [e1, path_last]; rfl
    · rcases kk x hx with h | h | h | ⟨q, h, _⟩
      · exact .inl h
      · exact .inr (.inl h)
      · exact .inr (.inr h)
      · cases h
  · rw [if_pos (nz60 (by rw [e1])), x.back a.live, e1]
    exact .inl ⟨rfl, by omega⟩
  · rw [if_pos (nz90 (by rw [e1])), x.back a.live, e1]
    exact .inr (.inl ⟨rfl, h⟩)
/-! tables on a way -/
theorem path_under {k q : Nat} (hk : k < 16522) (h : q ∈ path k) (hq : 16522 ≤ q) : loS q ≤ k ∧ k < hiS q := by
  unfold path at h
  split at h
  · rw [List.mem_singleton] at h; omega
  · split at h
    · simp only [List.mem_cons, List.not_mem_nil, or_false] at h
      rcases h with rfl | rfl
      · show 10 ≤ k ∧ k < 138; omega
      · omega
    · simp only [List.mem_cons, List.not_mem_nil, or_false] at h
      rcases h with rfl | rfl | rfl
      · show 138 ≤ k ∧ k < 16522; omega
      · rw [lo_tab, hi_tab]; omega
      · omega
theorem under_path {k q : Nat} (h1 : 16522 ≤ q) (h2 : q < nS) (a : loS q ≤ k) (b : k < hiS q) : q ∈ path k := by
  unfold path
  rcases tab_cases h1 h2 with rfl | rfl | ⟨r, hr, rfl⟩
  · have a : 10 ≤ k := a
    have b : k < 138 := b
    rw [if_neg (by omega), if_pos b]; simp
  · have a : 138 ≤ k := a
    have b : k < 16522 := b
    rw [if_neg (by omega), if_neg (by omega)]; simp
  · rw [lo_tab] at a
    rw [hi_tab] at b
    rw [if_neg (by omega), if_neg (by omega), show (k - 138) / 128 = r by omega]; simp
theorem path_self (k : Nat) : k ∈ path k := List.mem_of_getLast? (path_last k)
theorem path_data {k s : Nat} (h : s ∈ path k) (hs : s < 16522) : s = k := by
  unfold path at h
  split at h
  · exact List.mem_singleton.mp h
  · split at h
    · simp only [List.mem_cons, List.not_mem_nil, or_false] at h; omega
    · simp only [List.mem_cons, List.not_mem_nil, or_false] at h; omega
theorem Added.tight {n k : Nat} {Z Z' : Nat → Txt} {R R' : List Int} (a : Added n Z R none (path k) Z' R') (hk : k < 16522) (tg : Tight Z R) : Tight Z' R' := by
  intro q h1 h2 h0
  by_cases hq : q ∈ path k
  · obtain ⟨b, c⟩ := path_under hk hq h1
    exact ⟨k, b, c, a.got k (path_self k)⟩
  · rw [a.off q h2 hq] at h0
    obtain ⟨x, b, c, hx⟩ := tg q h1 h2 h0
    have hx2 := (data_sub h1 h2 b c).2
    refine ⟨x, b, c, ?_⟩
    by_cases hp : x ∈ path k
    · exact a.got x hp
    · rw [a.off x (by unfold nS; omega) hp]; exact hx
theorem tight_nil {Z : Nat → Txt} {R : List Int} (h : ∀ i, 3 ≤ i → i < 15 → R.getD i 0 = 0) : Tight Z R := fun q _ h2 h0 => absurd (num_nil h q h2) h0
/-- the data blocks behind an Add -/
theorem Added.data {n k : Nat} {Z Z' : Nat → Txt} {R R' : List Int} (a : Added n Z R none (path k) Z' R') {s : Nat} (hs : s < 16522) (hne : s ≠ k) : num Z' R' s = num Z R s :=
  a.off s (by unfold nS; omega) fun h => hne (path_data h hs)
/-! how many blocks are free -/
theorem cnt_img (f : Nat → Nat) (n : Nat) : ∀ m, (∀ s, s < m → f s ≠ 0 → f s < n) → (∀ s s', s < m → s' < m → f s ≠ 0 → f s = f s' → s = s') → cnt (fun j => @decide (∃ s, s < m ∧ f s ≠ 0 ∧ f s = j) (Classical.propDecidable _)) n = cnt (fun s => decide (f s ≠ 0)) m
  | 0, _, _ => cnt_zero fun j _ => by
    rw [decide_eq_false_iff_not]
    rintro ⟨s, h, _⟩; omega
  | m + 1, h1, h2 => by
    have ih := cnt_img f n m (fun s hs => h1 s (by omega)) fun s s' hs hs' => h2 s s' (by omega) (by omega)
    show _ = cnt (fun s => decide (f s ≠ 0)) m + (if decide (f m ≠ 0) = true then 1 else 0)
    rw [← ih]
    by_cases h0 : f m = 0
    · rw [if_neg (by rw [decide_eq_true_eq]; exact fun y => y h0)]
      refine cnt_congr fun j _ => ?_
      rw [decide_eq_decide]
      refine ⟨fun ⟨s, a, b, c⟩ => ⟨s, ?_, b, c⟩, fun ⟨s, a, b⟩ => ⟨s, by omega, b⟩⟩
      by_cases e : s = m
      · subst e; exact absurd h0 b
      · omega
    · rw [if_pos (decide_eq_true h0)]
      have := cnt_upd (p := fun j => @decide (∃ s, s < m ∧ f s ≠ 0 ∧ f s = j) (Classical.propDecidable _)) (q := fun j => @decide (∃ s, s < m + 1 ∧ f s ≠ 0 ∧ f s = j) (Classical.propDecidable _)) (i := f m) (fun j hj => by
        rw [decide_eq_decide]
        refine ⟨fun ⟨s, a, b⟩ => ⟨s, by omega, b⟩, fun ⟨s, a, b, c⟩ => ⟨s, ?_, b, c⟩⟩
        by_cases e : s = m
        · subst e; exact absurd c.symm hj
        · omega) (by
        rw [decide_eq_false_iff_not]
        rintro ⟨s, a, b, c⟩
        have := h2 s m (by omega) (by omega) b c
        omega) (@decide_eq_true _ (Classical.propDecidable _) ⟨m, by omega, h0, rfl⟩) n
      rw [if_pos (h1 m (by omega) h0)] at this
      exact this
/-- a slot's block -/
def Used (Z : Nat → Txt) (R : List Int) (j : Nat) : Prop := ∃ s, s < nS ∧ num Z R s ≠ 0 ∧ num Z R s = j
theorem cnt_or {p q : Nat → Bool} (h : ∀ j, p j = true → q j = true → False) : ∀ m, cnt (fun j => p j || q j) m = cnt p m + cnt q m
  | 0 => rfl
  | m + 1 => by
    show cnt (fun j => p j || q j) m + (if (p m || q m) = true then 1 else 0) = cnt p m + (if p m = true then 1 else 0) + (cnt q m + (if q m = true then 1 else 0))
    rw [cnt_or h m]
    have := h m
    cases hp : p m <;> cases hq : q m
    · rfl
    · show _ + 1 = _ + 0 + (_ + 1); omega
    · show _ + 1 = _ + 1 + (_ + 0); omega
    · exact (this hp hq).elim
theorem many_used {n : Nat} {Z : Nat → Txt} {R : List Int} (w : Wf n Z R) : cnt (fun j => @decide (Used Z R j) (Classical.propDecidable _)) n = many Z R :=
  cnt_img (num Z R) n nS (fun s hs h0 => (w.rng s hs h0).2.1) w.inj
theorem frees_many {n : Nat} {Z Z' : Nat → Txt} {R R' : List Int} (w : Wf n Z R) (w' : Wf n Z' R') (h : ∀ j, j < n → (isFree n Z' j = true ∨ Used Z' R' j ↔ isFree n Z j = true ∨ Used Z R j)) : frees n Z' + many Z' R' = frees n Z + many Z R := by
  have dis : ∀ {Z : Nat → Txt} {R : List Int}, Wf n Z R → ∀ j, isFree n Z j = true → @decide (Used Z R j) (Classical.propDecidable _) = true → False := fun w j h1 h2 => by
    obtain ⟨s, hs, h0, e⟩ := @of_decide_eq_true _ (Classical.propDecidable _) h2
    have := (w.rng s hs h0).2.2
    rw [e, (isFree_iff.mp h1).2.2] at this; cases this
  rw [← many_used w, ← many_used w', frees, frees, ← cnt_or (dis w), ← cnt_or (dis w')]
  refine cnt_congr fun j hj => ?_
  rw [Bool.eq_iff_iff, Bool.or_eq_true, Bool.or_eq_true, @decide_eq_true_iff _ (Classical.propDecidable _), @decide_eq_true_iff _ (Classical.propDecidable _)]
  exact h j hj
theorem Cutd.frees {n k : Nat} {Z Z' : Nat → Txt} {R R' : List Int} (c : Cutd n k Z R Z' R') (d : Dim n) (w : Wf n Z R) : Av.frees n Z' + many Z' R' = Av.frees n Z + many Z R := by
  refine frees_many w c.w fun j hj => ?_
  constructor
  · rintro (h | ⟨s, hs, h0, e⟩)
    · obtain ⟨f1, f2, f3⟩ := isFree_iff.mp h
      cases hb : bit Z j with
      | false => exact .inl (isFree_iff.mpr ⟨f1, f2, hb⟩)
      | true =>
        refine .inr (Classical.byContradiction fun y => ?_)
        have := (c.bits j (d.map hj).2.1).mpr ⟨hb, fun s hs _ h0 e => y ⟨s, hs, h0, e⟩⟩
        rw [f3] at this; cases this
    · have hD : ¬ Dk Z R k s := fun y => h0 (c.gone s hs y)
      have es := c.kept s hs hD
      rw [es] at h0 e
      exact .inr ⟨s, hs, h0, e⟩
  · rintro (h | ⟨s, hs, h0, e⟩)
    · obtain ⟨f1, f2, f3⟩ := isFree_iff.mp h
      refine .inl (isFree_iff.mpr ⟨f1, f2, ?_⟩)
      cases hb : bit Z' j with
      | false => rfl
      | true =>
        have := ((c.bits j (d.map hj).2.1).mp hb).1
        rw [f3] at this; cases this
    · by_cases hD : Dk Z R k s
      · obtain ⟨r1, r2, r3⟩ := w.rng s hs h0
        refine .inl (isFree_iff.mpr ⟨by omega, hj, ?_⟩)
        cases hb : bit Z' j with
        | false => rfl
        | true => exact absurd e (((c.bits j (d.map hj).2.1).mp hb).2 s hs hD h0)
      · have es := c.kept s hs hD
        exact .inr ⟨s, hs, by rw [es]; exact h0, es.trans e⟩
/-- a record all of whose slots are empty -/
theorem list_ext0 {a b : List Int} {m : Nat} (ha : a.length = m) (hb : b.length = m) (h : ∀ i, i < m → a.getD i 0 = b.getD i 0) : a = b := by
  apply List.ext_getElem
  · rw [ha, hb]
  · intro i h1 h2
    have := h i (by omega)
    rw [List.getD_eq_getElem?_getD, List.getElem?_eq_getElem h1, List.getD_eq_getElem?_getD, List.getElem?_eq_getElem h2] at this; exact this
theorem roots_num {n : Nat} {Z : Nat → Txt} {R : List Int} (w : Wf n Z R) : (∀ i, i < 10 → R.getD (3 + i) 0 = ((num Z R i : Nat) : Int)) ∧ R.getD 13 0 = ((num Z R 16522 : Nat) : Int) ∧ R.getD 14 0 = ((num Z R 16523 : Nat) : Int) :=
  ⟨fun i hi => by rw [← root_dir hi]; exact root_num w (by unfold nS; omega) (by unfold par; rw [if_pos hi]), root_num w (s := 16522) (by decide) rfl, root_num w (s := 16523) (by decide) rfl⟩
/-- a record is settled by its head and the numbers of its roots -/
theorem rec_ext {n n' : Nat} {Z Z' : Nat → Txt} {R R' : List Int} (w : Wf n Z R) (w' : Wf n' Z' R') (h3 : ∀ i, i < 3 → R.getD i 0 = R'.getD i 0) (h : ∀ s, s < nS → par s = none → num Z R s = num Z' R' s) : R = R' := by
  obtain ⟨a1, a2, a3⟩ := roots_num w
  obtain ⟨b1, b2, b3⟩ := roots_num w'
  refine list_ext0 w.rl w'.rl fun i hi => ?_
  by_cases i1 : i < 3
  · exact h3 i i1
  · by_cases i2 : i < 13
    · obtain ⟨j, rfl⟩ : ∃ j, i = 3 + j := ⟨i - 3, by omega⟩
      rw [a1 j (by omega), b1 j (by omega), h j (by unfold nS; omega) (by unfold par; rw [if_pos (by omega)])]
    · by_cases i3 : i = 13
      · subst i3; rw [a2, b2, h 16522 (by decide) rfl]
      · have : i = 14 := by omega
        subst this; rw [a3, b3, h 16523 (by decide) rfl]
end Go.Proofs.YtcdpakjhjmchhaaGreatDoor.Bm
/-
  bolelaw10: what the document gives, plainly.
-/
namespace Go.Proofs.YtcdpakjhjmchhaaGreatDoor.Bm
open Go Go.Proofs Go.Proofs.YtcdpakjhjmchhaaGreatDoor.Wx Go.Proofs.YtcdpakjhjmchhaaGreatDoor.Hp Go.Proofs.YtcdpakjhjmchhaaGreatDoor.W Go.Proofs.YtcdpakjhjmchhaaGreatDoor.Ad Go.Proofs.YtcdpakjhjmchhaaGreatDoor.Tm Go.Proofs.YtcdpakjhjmchhaaGreatDoor.Bt Go.Proofs.YtcdpakjhjmchhaaGreatDoor.Spc Go.Proofs.YtcdpakjhjmchhaaGreatDoor.Re Go.Proofs.YtcdpakjhjmchhaaGreatDoor.Av

/-! how long the row of what undoes puts gets -/
theorem walkA_un (g : G) : ∀ (l : List (Nat × Nat)) (T : TM) (R : List Int) (a : Int), (∀ s ∈ l, StOk s) → (walkA g l T R a).1.1.undo.length ≤ T.undo.length + 3 * l.length
  | [], T, R, a, _ => Nat.le_add_right _ _
  | s :: r, T, R, a, h => by
    have ih := fun T' R' a' => walkA_un g r T' R' a' fun x hx => h x (List.mem_cons_of_mem _ hx)
    have nx : ∀ (TR : TM × List Int) (nu er : Int), TR.1.undo.length ≤ T.undo.length + 3 → (nextM g TR nu er (walkA g r)).1.1.undo.length ≤ T.undo.length + 3 * (r.length + 1) := fun TR nu er hle => by
      unfold nextM
      split
      · show TR.1.undo.length ≤ _; omega
      · split
        · show TR.1.undo.length ≤ _; omega
        · split
          · show TR.1.undo.length ≤ _; omega
          · have := ih TR.1 TR.2 nu; omega
    rw [walkA_cons, List.length_cons]
    split
    · exact nx _ _ _ (holeM_un (h s (List.mem_cons_self ..)))
    · exact nx (T, R) _ _ (Nat.le_add_right _ _)
theorem back_un (T : TM) (m : Int) : (T.back m).1.undo.length ≤ T.undo.length := by
  unfold TM.back
  split
  · exact Nat.le_refl _
  · split
    · exact Nat.le_refl _
    · show (T.undo.take _).length ≤ _
      rw [List.length_take]; omega
theorem addM_un {T : TM} {g : G} {R : List Int} {k : Int} : (addM T g R k).1.undo.length ≤ T.undo.length + 9 := by
  unfold addM
  split
  · exact Nat.le_add_right _ _
  · rename_i hk
    have hl : (wayM k.toNat).length ≤ 3 := by
      unfold wayM
      split
      · simp
      · split <;> simp
    have := walkA_un g (wayM k.toNat) T R 0 (wayM_ok (by omega))
    split
    · have hb := back_un (walkA g (wayM k.toNat) T R 0).1.1 T.undo.length
      exact Nat.le_trans hb (by omega)
    · exact Nat.le_trans this (by omega)
theorem dirGo_un (g : G) : ∀ (l : List Nat) (T : TM) (R : List Int), (dirGo g l T R).1.1.undo.length ≤ T.undo.length + l.length
  | [], T, R => Nat.le_refl _
  | i :: r, T, R => by
    rw [List.length_cons]
    unfold dirGo
    split
    · have := dirGo_un g r T R; omega
    · have h1 := giveF_un T g (R.getD (3 + i) 0)
      split
      · show (giveF T g (R.getD (3 + i) 0)).1.undo.length ≤ _; omega
      · have := dirGo_un g r (giveF T g (R.getD (3 + i) 0)).1 (R.set (3 + i) 0); omega
theorem rootEnd_un (i : Nat) (R : List Int) (C : TM × Bool × Int) : (rootEnd i R C).1.1 = C.1 := by
  unfold rootEnd; split <;> rfl
theorem cutS_un (g : G) (k : Int) (T : TM) (R : List Int) : (cutS g k T R).1.1.undo.length ≤ T.undo.length + 16700 + (10 - k.toNat) := by
  have h1 := dirGo_un g (dirsM k) T R
  have hl : (dirsM k).length = 10 - k.toNat := List.length_range'
  have h2 : ∀ (T' : TM) (R' : List Int), (oneM g k T' R').1.1.undo.length ≤ T'.undo.length + 129 := fun T' R' => by
    unfold oneM
    split
    · rw [rootEnd_un]; exact cutT_un (leafD_un g)
    · exact Nat.le_add_right _ _
  have h3 : ∀ (T' : TM) (R' : List Int), (twoM g k T' R').1.1.undo.length ≤ T'.undo.length + 16513 := fun T' R' => by
    unfold twoM
    split
    · rw [rootEnd_un]; exact cutT_un (tabD_un g (firstM k))
    · exact Nat.le_add_right _ _
  unfold cutS
  split
  · omega
  · have a := h2 (dirGo g (dirsM k) T R).1.1 (dirGo g (dirsM k) T R).1.2
    split
    · omega
    · have b := h3 (oneM g k (dirGo g (dirsM k) T R).1.1 (dirGo g (dirsM k) T R).1.2).1.1 (oneM g k (dirGo g (dirsM k) T R).1.1 (dirGo g (dirsM k) T R).1.2).1.2
      omega
theorem cutM_un {T : TM} {g : G} {R : List Int} {k : Int} : (cutM T g R k).1.undo.length ≤ T.undo.length + 16710 := by
  have h := cutS_un g k T R
  unfold cutM
  split
  · exact Nat.le_add_right _ _
  · split
    · have hb := back_un (cutS g k T R).1.1 T.undo.length
      exact Nat.le_trans hb (by omega)
    · exact Nat.le_trans h (by omega)
/-! the first facts -/
theorem z15_get (i : Nat) : z15.getD i 0 = 0 := by
  unfold z15
  rw [List.getD_eq_getElem?_getD, List.getElem?_replicate]
  split <;> rfl
theorem rowN_two {f : Nat → Nat} (h0 : f 0 ≠ 0) (h1 : f 10 ≠ 0) (h : ∀ s, s < 16522 → s ≠ 0 → s ≠ 10 → f s = 0) : rowN f 0 16522 = [(0, (f 0 : Int)), (10, (f 10 : Int))] := by
  have e : rowN f 0 (1 + (9 + (1 + 16511))) = rowN f 0 1 ++ (rowN f 1 9 ++ (rowN f 10 1 ++ rowN f 11 16511)) := by
    rw [rowN_add, rowN_add, rowN_add]
  have e2 : rowN f 1 9 = [] := rowN_zero 9 1 fun j hj => h _ (by omega) (by omega) (by omega)
  have e3 : rowN f 11 16511 = [] := rowN_zero 16511 11 fun j hj => h _ (by omega) (by omega) (by omega)
  rw [show 16522 = 1 + (9 + (1 + 16511)) by rfl, e, e2, e3]
  show ((if f 0 = 0 then [] else [(((0 : Nat) : Int), (f 0 : Int))]) ++ []) ++ ([] ++ (((if f 10 = 0 then [] else [(((10 : Nat) : Int), (f 10 : Int))]) ++ []) ++ [])) = _
  rw [if_neg h0, if_neg h1]; rfl
theorem cnt_from {p : Nat → Bool} {a : Nat} (h : ∀ j, p j = decide (a ≤ j)) : ∀ m, cnt p m = m - a
  | 0 => by show 0 = _; omega
  | m + 1 => by
    show cnt p m + (if p m = true then 1 else 0) = _
    rw [cnt_from h m, h m]
    by_cases e : a ≤ m
    · rw [decide_eq_true e, if_pos rfl]; omega
    · rw [decide_eq_false e, if_neg (by simp)]; omega
theorem frees_from {n nx : Nat} {Z : Nat → Txt} (h : From_ n Z nx) : frees n Z = n - nx := by
  unfold frees
  rw [← cnt_from (p := fun j => decide (nx ≤ j)) (a := nx) (fun j => rfl) n]
  refine cnt_congr fun j hj => ?_
  rw [Bool.eq_iff_iff, h j, decide_eq_true_eq]; omega
structure KnownR (T0 T1 T2 T3 : TM) (R1 R2 : List Int) : Prop where
  a1 : addM T0 (geoN 128) z15 0 = (T1, R1, 101, 0)
  a2 : addM T1 (geoN 128) R1 10 = (T2, R2, 103, 0)
  f : findM T2 (geoN 128) R2 10 = (103, 0)
  l : allM T2 (geoN 128) R2 = ([(0, 101), (10, 103)], [102], 0)
  c : cutM T2 (geoN 128) R2 0 = (T3, z15, 0)
  n : cntTo T3 (geoN 128) (4096 * ((geoN 128).inodes - (geoN 128).bitmap)) = 27
  l1 : R1.length = 15
  l2 : R2.length = 15
  one : R2.getD 13 0 = 102
  dir : R2.getD 3 0 = 101
  v1 : T1.over = false
  v2 : T2.over = false
  rd : ∀ k : Nat, k < 128 → (T3.read k).2 = 0
theorem known_plain {Z : Nat → Txt} {T : TM} (a : Av 128 Z T) (hk : ks T = []) (hb : ∀ j, j < 128 → bit Z j = edge 128 j) : ∃ T1 T2 T3 R1 R2, KnownR T T1 T2 T3 R1 R2 := by
  have d : Dim 128 := ⟨by decide, by decide⟩
  have hdat : (geoN 128).data = 101 := rfl
  have F0 : From_ 128 Z 101 := fun j => by
    rw [isFree_iff, hdat]
    constructor
    · rintro ⟨h1, h2, _⟩; exact ⟨h1, h2⟩
    · rintro ⟨h1, h2⟩
      refine ⟨h1, h2, ?_⟩
      rw [hb j h2]
      unfold edge
      rw [hdat, decide_eq_false (by omega), decide_eq_false (by omega)]; rfl
  have n0 : ∀ s, s < nS → num Z z15 s = 0 := num_nil fun i _ _ => z15_get i
  have w0 : Wf 128 Z z15 := wf_nil rfl fun i _ _ => z15_get i
  have t0 : Tight Z z15 := tight_nil fun i _ _ => z15_get i
  have f0 : frees 128 Z = 27 := frees_from F0
  have p0 : path 0 = [0] := rfl
  have p10 : path 10 = [16522, 10] := rfl
  have k0 : (ks T).length = 0 := by rw [hk]; rfl
  -- the first block
  have m0 : miss Z z15 (path 0) = 1 := by
    rw [p0]
    show (if num Z z15 0 = 0 then 1 else 0) + 0 = 1
    rw [if_pos (n0 0 (by decide))]
  rcases add_ok (k := 0) d a w0 (by decide) with ⟨_, h⟩ | ⟨_, h⟩ | ⟨T1, R1, Z1, e1, a1, d1, _, kk1, _⟩
  · exfalso; omega
  · exfalso; omega
  obtain ⟨F1, low1⟩ := d1.low 101 F0
  rw [m0] at F1
  have l1 : num Z1 R1 0 = 101 := low1 0 (by rw [p0]; decide) (n0 0 (by decide))
  have o1 : ∀ s, s < nS → s ≠ 0 → num Z1 R1 s = 0 := fun s hs hne => by rw [d1.off s hs (by rw [p0, List.mem_singleton]; exact hne)]; exact n0 s hs
  have f1 : frees 128 Z1 = 26 := frees_from F1
  have k1 : (ks T1).length ≤ 0 + 2 := by
    have := Bm.keys_le (k := []) (l := [98, 101]) a1.keys fun x hx => by
      right
      rcases kk1 x hx with h | h | ⟨s, h, e⟩
      · rw [hk] at h; cases h
      · have := (a1.rng x hx).1
        have hi : (geoN 128).inodes = 99 := rfl
        have : x = 98 := by omega
        rw [this]; simp
      · rw [p0, List.mem_singleton] at h
        subst h
        rw [l1] at e; rw [e]; simp
    exact this
  -- the second block and its table
  have m1 : miss Z1 R1 (path 10) = 2 := by
    rw [p10]
    show (if num Z1 R1 16522 = 0 then 1 else 0) + ((if num Z1 R1 10 = 0 then 1 else 0) + 0) = 2
    rw [if_pos (o1 16522 (by decide) (by decide)), if_pos (o1 10 (by decide) (by decide))]
  rcases add_ok (k := 10) d a1 d1.w (by decide) with ⟨_, h⟩ | ⟨_, h⟩ | ⟨T2, R2, Z2, e2, a2, d2, _, kk2, _⟩
  · exfalso; omega
  · exfalso; omega
  obtain ⟨F2, low2⟩ := d2.low _ F1
  have l2 : num Z2 R2 16522 = 102 := low2 0 (by rw [p10]; decide) (o1 16522 (by decide) (by decide))
  have l3 : num Z2 R2 10 = 103 := by
    have := low2 1 (by rw [p10]; decide) (o1 10 (by decide) (by decide))
    have e : miss Z1 R1 ((path 10).take 1) = 1 := by
      show (if num Z1 R1 16522 = 0 then 1 else 0) + 0 = 1
      rw [if_pos (o1 16522 (by decide) (by decide))]
    rw [e] at this; exact this
  have o2 : ∀ s, s < nS → s ≠ 0 → s ≠ 10 → s ≠ 16522 → num Z2 R2 s = 0 := fun s hs h1 h2 h3 => by
    rw [d2.off s hs (by rw [p10]; simp only [List.mem_cons, List.not_mem_nil, or_false]; omega)]; exact o1 s hs h1
  have l4 : num Z2 R2 0 = 101 := by rw [d2.off 0 (by decide) (by rw [p10]; simp)]; exact l1
  have t1 := d1.tight (by decide) t0
  have t2 := d2.tight (by decide) t1
  have k2 : (ks T2).length ≤ (ks T1).length + 3 := by
    have := Bm.keys_le (k := ks T1) (l := [98, 102, 103]) a2.keys fun x hx => by
      rcases kk2 x hx with h | h | ⟨s, h, e⟩
      · exact .inl h
      · have := (a2.rng x hx).1
        have hi : (geoN 128).inodes = 99 := rfl
        have hx98 : x = 98 := by omega
        exact .inr (by rw [hx98]; simp)
      · rw [p10] at h
        simp only [List.mem_cons, List.not_mem_nil, or_false] at h
        rcases h with rfl | rfl
        · rw [l2] at e; exact .inr (by rw [e]; simp)
        · rw [l3] at e; exact .inr (by rw [e]; simp)
    exact this
  have f2 : frees 128 Z2 = 24 := by rw [frees_from F2, m1]
  have mn0 : many Z z15 = 0 := cnt_zero fun s hs => by rw [n0 s hs]; rfl
  have mn1 := d1.many
  have mn2 := d2.many
  rw [m0, mn0] at mn1
  rw [m1, mn1] at mn2
  rcases cut_ok (k := 0) d a2 d2.w t2 (by decide) with ⟨_, h, _⟩ | ⟨T3, R3, Z3, e3, a3, c3, _, _, _⟩
  · exfalso; omega
  have D0 : ∀ s, s < nS → Dk Z2 R2 0 s := fun s _ => ⟨fun _ => Nat.zero_le _, fun _ x _ _ h => by omega⟩
  have g3 : ∀ s, s < nS → num Z3 R3 s = 0 := fun s hs => c3.gone s hs (D0 s hs)
  have mn3 : many Z3 R3 = 0 := cnt_zero fun s hs => by rw [g3 s hs]; rfl
  have f3 := c3.frees d d2.w
  have w3 : Wf 128 Z3 z15 := wf_nil rfl fun i _ _ => z15_get i
  have eR : R3 = z15 := rec_ext c3.w w3 (fun i hi => by rw [c3.head i hi, d2.head i hi, d1.head i hi]) fun s hs _ => by rw [g3 s hs, num_nil (fun i _ _ => z15_get i) s hs]
  obtain ⟨r1, r2, r3⟩ := roots_num d2.w
  refine ⟨T1, T2, T3, R1, R2, ⟨by rw [l1] at e1; exact e1, by rw [l3] at e2; exact e2, ?_, ?_, by rw [eR] at e3; exact e3, ?_, d1.w.rl, d2.w.rl, by rw [r2, l2]; rfl, ?_, a1.live, a2.live, fun k hk => by rw [a3.z k hk]⟩⟩
  · have := find_ok a2 d2.w (k := 10) (by decide)
    rw [l3] at this; exact this
  · rw [allS_ok a2 d2.w, rowN_two (by rw [l4]; decide) (by rw [l3]; decide) fun s h1 h2 h3 => o2 s (by unfold nS; omega) h2 h3 (by omega), l4, l3]
    have z23 : num Z2 R2 16523 = 0 := o2 _ (by decide) (by decide) (by decide) (by decide)
    show (_, ((if num Z2 R2 16522 = 0 then [] else [((num Z2 R2 16522 : Nat) : Int)]) ++ []) ++ (((if num Z2 R2 16523 = 0 then [] else _) ++ []) ++ if num Z2 R2 16523 = 0 then [] else _), _) = _
    rw [if_pos z23, if_pos z23, l2]; rfl
  · rw [a3.cntZ d]; omega
  · have := r1 0 (by decide)
    rw [l4] at this; exact this
end Go.Proofs.YtcdpakjhjmchhaaGreatDoor.Bm
