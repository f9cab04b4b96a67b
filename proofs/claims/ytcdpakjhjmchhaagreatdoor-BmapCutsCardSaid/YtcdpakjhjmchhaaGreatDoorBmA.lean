import Derived.Test.YtcdpakjhjmchhaaGreatDoorAvA
import Derived.Test.YtcdpakjhjmchhaaGreatDoorReI
/-
  WHICH BLOCKS A FILE HAS, plainly: the numbers of a record and of its tables; a hole is filled; indices are cut.
-/
namespace Go.Proofs.YtcdpakjhjmchhaaGreatDoor.Bm
open Go Go.Proofs Go.Proofs.YtcdpakjhjmchhaaGreatDoor.Wx Go.Proofs.YtcdpakjhjmchhaaGreatDoor.Hp Go.Proofs.YtcdpakjhjmchhaaGreatDoor.W Go.Proofs.YtcdpakjhjmchhaaGreatDoor.Ad Go.Proofs.YtcdpakjhjmchhaaGreatDoor.Tm Go.Proofs.YtcdpakjhjmchhaaGreatDoor.Bt Go.Proofs.YtcdpakjhjmchhaaGreatDoor.Spc Go.Proofs.YtcdpakjhjmchhaaGreatDoor.Re Go.Proofs.YtcdpakjhjmchhaaGreatDoor.Av

/-! numbers in tables -/
theorem leN_leB (v : Nat) : ∀ n, leN (leB n v) = v % 256 ^ n
  | 0 => by show 0 = v % 1; omega
  | n + 1 => by
    have e : leB (n + 1) v = leB n v ++ [UInt8.ofNat (v / 256 ^ n)] := by unfold leB; rw [List.range_succ, List.map_append]; rfl
    rw [e, leN_snoc, leB_length, leN_leB v n, Nat.mod_pow_succ]
    have : (UInt8.ofNat (v / 256 ^ n)).toNat = v / 256 ^ n % 256 := by simp
    rw [this, Nat.mul_comm]
def num4 (b : Txt) (p : Nat) : Nat := leN ((b.drop (4 * p)).take 4)
def set4 (b : Txt) (p v : Nat) : Txt := putU b (4 * p) (leB 4 v)
theorem num4_lt (b : Txt) (p : Nat) : num4 b p < 4294967296 := by
  have h := leN_lt ((b.drop (4 * p)).take 4)
  have hl : ((b.drop (4 * p)).take 4).length ≤ 4 := by rw [List.length_take]; omega
  exact Nat.lt_of_lt_of_le h (Nat.le_trans (Nat.pow_le_pow_right (by decide) hl) (by decide))
theorem set4_length {b : Txt} {p v : Nat} (hb : b.length = 512) (hp : p < 128) : (set4 b p v).length = 512 := by
  unfold set4
  rw [putU_length (by rw [leB_length]; omega), hb]
theorem part_put {b z : Txt} {o q : Nat} (hz : z.length = 4) (hb : b.length = 512) (ho : 4 * o + 4 ≤ 512) (hq : 4 * q + 4 ≤ 512) : ((putU b (4 * o) z).drop (4 * q)).take 4 = if q = o then z else (b.drop (4 * q)).take 4 := by
  unfold putU
  have l1 : (b.take (4 * o)).length = 4 * o := by rw [List.length_take]; omega
  by_cases h : q = o
  · rw [if_pos h, h, List.append_assoc, List.drop_append_of_le_length (by omega), List.drop_of_length_le (by omega), List.nil_append, List.take_append_of_le_length (by omega), List.take_of_length_le (by omega)]
  · rw [if_neg h]
    rcases Nat.lt_or_ge q o with h1 | h1
    · rw [List.append_assoc, List.drop_append_of_le_length (by omega), List.take_append_of_le_length (by rw [List.length_drop]; omega), List.drop_take, List.take_take, Nat.min_eq_left (by omega)]
    · have l2 : (b.take (4 * o) ++ z).length = 4 * o + 4 := by rw [List.length_append]; omega
      rw [List.drop_append, List.drop_of_length_le (by omega), List.nil_append, List.drop_drop, l2, hz, show 4 * o + 4 + (4 * q - (4 * o + 4)) = 4 * q by omega]
theorem num4_set {b : Txt} {o q v : Nat} (hb : b.length = 512) (ho : o < 128) (hq : q < 128) (hv : v < 4294967296) : num4 (set4 b o v) q = if q = o then v else num4 b q := by
  unfold num4 set4
  rw [part_put (leB_length 4 v) hb (by omega) (by omega)]
  split
  · rw [leN_leB]; exact Nat.mod_eq_of_lt hv
  · rfl
theorem num4_zeros (p : Nat) : num4 zeros p = 0 := by
  unfold num4 zeros
  rw [List.drop_replicate, List.take_replicate]
  generalize min 4 (512 - 4 * p) = k
  induction k with
  | zero => rfl
  | succ k ih => rw [List.replicate_succ]; show (0 : UInt8).toNat + 256 * leN (List.replicate k 0) = 0; rw [ih]; rfl
/-! slots: data blocks by their index, then One, Two and the tables of Two -/
def nS : Nat := 16652
def par (s : Nat) : Option (Nat × Nat) :=
  if s < 10 then none else if s < 138 then some (16522, s - 10) else if s < 16522 then some (16524 + (s - 138) / 128, (s - 138) % 128) else if s < 16524 then none else some (16523, s - 16524)
def root (R : List Int) (s : Nat) : Int := if s < 10 then R.getD (3 + s) 0 else if s = 16522 then R.getD 13 0 else R.getD 14 0
def sub (Z : Nat → Txt) (b p : Nat) : Nat := if b = 0 then 0 else num4 (Z b) p
def num0 (R : List Int) (s : Nat) : Nat := (root R s).toNat
def num1 (Z : Nat → Txt) (R : List Int) (s : Nat) : Nat := match par s with
  | none => num0 R s
  | some (q, p) => sub Z (num0 R q) p
/-- the block that stands at a slot; 0: none -/
def num (Z : Nat → Txt) (R : List Int) (s : Nat) : Nat := match par s with
  | none => num0 R s
  | some (q, p) => sub Z (num1 Z R q) p
theorem par_up {s q p : Nat} (h : par s = some (q, p)) (hs : s < nS) : p < 128 ∧ ((q = 16522 ∧ s = 10 + p) ∨ (q = 16523 ∧ s = 16524 + p) ∨ (16524 ≤ q ∧ q < nS ∧ s = 138 + (q - 16524) * 128 + p)) := by
  unfold par at h
  unfold nS at *
  split at h
  · cases h
  · split at h
    · cases h; omega
    · split at h
      · cases h; omega
      · split at h
        · cases h
        · cases h; omega
theorem par_none {s : Nat} (h : par s = none) : s < 10 ∨ s = 16522 ∨ s = 16523 := by
  unfold par at h
  split at h
  · omega
  · split at h
    · cases h
    · split at h
      · cases h
      · split at h
        · omega
        · cases h
theorem par_table {p : Nat} (_ : p < 128) : par (16524 + p) = some (16523, p) := by
  unfold par
  rw [if_neg (by omega), if_neg (by omega), if_neg (by omega), if_neg (by omega), Nat.add_sub_cancel_left]
theorem par_inj {s s' q p : Nat} (h : par s = some (q, p)) (h' : par s' = some (q, p)) (hs : s < nS) (hs' : s' < nS) : s = s' := by
  have a := par_up h hs
  have b := par_up h' hs'
  omega
theorem par_ne {s q p : Nat} (h : par s = some (q, p)) (hs : s < nS) : q ≠ s ∧ q < nS ∧ 16522 ≤ q := by
  have a := par_up h hs
  unfold nS at *
  omega
theorem num_none {Z : Nat → Txt} {R : List Int} {s : Nat} (h : par s = none) : num Z R s = (root R s).toNat := by unfold num; rw [h]; rfl
theorem num1_num {Z : Nat → Txt} {R : List Int} {q : Nat} (hq : 16522 ≤ q) (hn : q < nS) : num1 Z R q = num Z R q := by
  unfold num1 num
  rcases Nat.lt_or_ge q 16524 with h | h
  · have : par q = none := by unfold par; rw [if_neg (by omega), if_neg (by omega), if_neg (by omega), if_pos h]
    rw [this]
  · have e : par q = some (16523, q - 16524) := by
      have := par_table (p := q - 16524) (by unfold nS at hn; omega)
      rw [show 16524 + (q - 16524) = q by omega] at this
      exact this
    rw [e]
    show sub Z (num0 R 16523) _ = sub Z (num1 Z R 16523) _
    rfl
theorem num_some {Z : Nat → Txt} {R : List Int} {s q p : Nat} (h : par s = some (q, p)) (hs : s < nS) : num Z R s = sub Z (num Z R q) p := by
  have a := par_ne h hs
  unfold num
  rw [h]
  show sub Z (num1 Z R q) p = sub Z (num Z R q) p
  rw [num1_num a.2.2 a.2.1]
/-- induction over slots: a slot behind its table -/
theorem slots {P : Nat → Prop} (h0 : ∀ s, s < nS → par s = none → P s) (h1 : ∀ s q p, s < nS → par s = some (q, p) → P q → P s) : ∀ s, s < nS → P s := by
  have two : P 16523 := h0 _ (by decide) (by decide)
  have tab : ∀ q, 16522 ≤ q → q < nS → P q := fun q hq hn => by
    cases e : par q with
    | none => exact h0 q hn e
    | some x =>
      obtain ⟨q', p⟩ := x
      have := par_up e hn
      have : q' = 16523 := by unfold nS at *; omega
      subst this
      exact h1 q _ p hn e two
  intro s hs
  cases e : par s with
  | none => exact h0 s hs e
  | some x =>
    obtain ⟨q, p⟩ := x
    have := par_ne e hs
    exact h1 s q p hs e (tab q this.2.2 this.2.1)
/-- the numbers of a record are sound: data blocks that are taken, none twice -/
structure Wf (n : Nat) (Z : Nat → Txt) (R : List Int) : Prop where
  rl : R.length = 15
  rr : ∀ i, 3 ≤ i → i < 15 → 0 ≤ R.getD i 0
  rng : ∀ s, s < nS → num Z R s ≠ 0 → (geoN n).data ≤ num Z R s ∧ num Z R s < n ∧ bit Z (num Z R s) = true
  inj : ∀ s s', s < nS → s' < nS → num Z R s ≠ 0 → num Z R s = num Z R s' → s = s'
def setRoot (R : List Int) (s : Nat) (v : Int) : List Int := if s < 10 then R.set (3 + s) v else if s = 16522 then R.set 13 v else R.set 14 v
theorem getD_set {α : Type} (l : List α) (i j : Nat) (b d : α) (h : i < l.length) : (l.set i b).getD j d = if j = i then b else l.getD j d := by
  rw [List.getD_eq_getElem?_getD, List.getD_eq_getElem?_getD]
  by_cases e : j = i
  · rw [if_pos e, e, List.getElem?_set_self h]; rfl
  · rw [if_neg e, List.getElem?_set_ne (fun x => e x.symm)]
theorem root_set {R : List Int} {s s' : Nat} {v : Int} (hl : R.length = 15) (h : par s = none) (h' : par s' = none) : root (setRoot R s v) s' = if s' = s then v else root R s' := by
  have a := par_none h
  have b := par_none h'
  unfold root setRoot
  by_cases e : s < 10
  · rw [if_pos e]
    simp only [getD_set R (3 + s) _ _ _ (show 3 + s < R.length by omega)]
    by_cases e' : s' < 10
    · rw [if_pos e', if_pos e']
      by_cases e2 : s' = s
      · rw [if_pos e2, if_pos (by omega)]
      · rw [if_neg e2, if_neg (by omega)]
    · rw [if_neg e', if_neg e', if_neg (show ¬ s' = s by omega), if_neg (show ¬ 13 = 3 + s by omega), if_neg (show ¬ 14 = 3 + s by omega)]
  · rw [if_neg e]
    by_cases e1 : s = 16522
    · rw [if_pos e1]
      simp only [getD_set R 13 _ _ _ (show 13 < R.length by omega)]
      by_cases e' : s' < 10
      · rw [if_pos e', if_pos e', if_neg (show ¬ s' = s by omega), if_neg (show ¬ 3 + s' = 13 by omega)]
      · rw [if_neg e', if_neg e']
        by_cases e2 : s' = 16522
        · rw [if_pos e2, if_pos e2, if_pos trivial, if_pos (by omega)]
        · rw [if_neg e2, if_neg e2, if_neg (show ¬ s' = s by omega), if_neg (show ¬ 14 = 13 by omega)]
    · rw [if_neg e1]
      simp only [getD_set R 14 _ _ _ (show 14 < R.length by omega)]
      by_cases e' : s' < 10
      · rw [if_pos e', if_pos e', if_neg (show ¬ s' = s by omega), if_neg (show ¬ 3 + s' = 14 by omega)]
      · rw [if_neg e', if_neg e']
        by_cases e2 : s' = 16522
        · rw [if_pos e2, if_pos e2, if_neg (show ¬ s' = s by omega), if_neg (show ¬ 13 = 14 by omega)]
        · rw [if_neg e2, if_neg e2, if_pos trivial, if_pos (by omega)]
/-- a hole is filled: the record, the blocks -/
def fillR (R : List Int) (s m : Nat) : List Int := match par s with
  | none => setRoot R s m
  | some _ => R
def fillZ (Z : Nat → Txt) (R : List Int) (s m : Nat) : Nat → Txt := match par s with
  | none => takeZ Z m
  | some (q, p) => up (takeZ Z m) (num Z R q) (set4 (Z (num Z R q)) p m)
theorem takeZ_at {n m : Nat} {Z : Nat → Txt} (d : Dim n) (hl : ∀ k, k < n → (Z k).length = 512) (f1 : (geoN n).data ≤ m) (f2 : m < n) :
    (∀ j, j < n → bit (takeZ Z m) j = if j = m then true else bit Z j) ∧ takeZ Z m m = zeros ∧ ∀ b, (geoN n).inodes ≤ b → b ≠ m → takeZ Z m b = Z b := by
  obtain ⟨m1, m2, m3, m4⟩ := d.map f2
  refine ⟨fun j hj => ?_, up_at _ _ _, fun b hb hm => ?_⟩
  · unfold takeZ
    rw [bit_up (by have := (d.map hj).2; omega), bit_setZ (hl _ m4)]
  · unfold takeZ
    rw [up_ne _ _ hm, setZ_ne (by omega)]
/-- what stands in the blocks behind that -/
theorem fillZ_at {n m s : Nat} {Z : Nat → Txt} {R : List Int} (d : Dim n) (hl : ∀ k, k < n → (Z k).length = 512) (w : Wf n Z R) (hs : s < nS) (hp : ∀ q p, par s = some (q, p) → num Z R q ≠ 0) (hf : isFree n Z m = true) :
    (∀ j, j < n → bit (fillZ Z R s m) j = if j = m then true else bit Z j) ∧ fillZ Z R s m m = zeros ∧
      ∀ b, (geoN n).inodes ≤ b → b ≠ m → (∀ q p, par s = some (q, p) → b ≠ num Z R q) → fillZ Z R s m b = Z b := by
  obtain ⟨f1, f2, f3⟩ := isFree_iff.mp hf
  have t := takeZ_at d hl f1 f2
  cases e : par s with
  | none =>
    simp only [fillZ, e]
    exact ⟨t.1, t.2.1, fun b h1 h2 _ => t.2.2 b h1 h2⟩
  | some x =>
    obtain ⟨q, p⟩ := x
    have hq := hp q p e
    have a := par_ne e hs
    obtain ⟨r1, r2, r3⟩ := w.rng q a.2.1 hq
    have hqm : num Z R q ≠ m := fun y => by rw [y, f3] at r3; cases r3
    simp only [fillZ, e]
    refine ⟨fun j hj => ?_, ?_, fun b h1 h2 h3 => ?_⟩
    · rw [bit_up (by have := (d.map hj).2; omega)]; exact t.1 j hj
    · rw [up_ne _ _ (fun y => hqm y.symm)]; exact t.2.1
    · rw [up_ne _ _ (h3 q p rfl)]; exact t.2.2 b h1 h2
theorem setRoot_rr {R : List Int} {s : Nat} {v : Int} (hl : R.length = 15) (h : ∀ i, 3 ≤ i → i < 15 → 0 ≤ R.getD i 0) (hv : 0 ≤ v) : (setRoot R s v).length = 15 ∧ ∀ i, 3 ≤ i → i < 15 → 0 ≤ (setRoot R s v).getD i 0 := by
  unfold setRoot
  refine ⟨?_, fun i h1 h2 => ?_⟩
  · split
    · rw [List.length_set]; exact hl
    · split
      · rw [List.length_set]; exact hl
      · rw [List.length_set]; exact hl
  split
  · rw [getD_set _ _ _ _ _ (by omega)]; split
    · exact hv
    · exact h i h1 h2
  · split
    · rw [getD_set _ _ _ _ _ (by omega)]; split
      · exact hv
      · exact h i h1 h2
    · rw [getD_set _ _ _ _ _ (by omega)]; split
      · exact hv
      · exact h i h1 h2
/-- a hole is filled with a free block -/
theorem Wf.fill {n m s : Nat} {Z : Nat → Txt} {R : List Int} (d : Dim n) (hl : ∀ k, k < n → (Z k).length = 512) (w : Wf n Z R) (hs : s < nS) (h0 : num Z R s = 0) (hp : ∀ q p, par s = some (q, p) → num Z R q ≠ 0) (hf : isFree n Z m = true) :
    (∀ s', s' < nS → num (fillZ Z R s m) (fillR R s m) s' = if s' = s then m else num Z R s') ∧ Wf n (fillZ Z R s m) (fillR R s m) := by
  obtain ⟨f1, f2, f3⟩ := isFree_iff.mp hf
  obtain ⟨b1, b2, b3⟩ := fillZ_at d hl w hs hp hf
  have hd := d.data
  have hi := (d.map f2).2.2.1
  have hhi := d.hi
  have ne : ∀ s', s' < nS → num Z R s' ≠ 0 → num Z R s' ≠ m := fun s' h1 h2 y => by
    have := (w.rng s' h1 h2).2.2
    rw [y, f3] at this; cases this
  have numb : ∀ s', s' < nS → num (fillZ Z R s m) (fillR R s m) s' = if s' = s then m else num Z R s' := by
    refine slots (fun s' h1 e' => ?_) fun s' q' p' h1 e' ih => ?_
    · rw [num_none e', num_none e']
      cases e : par s with
      | none =>
        simp only [fillR, e]
        rw [root_set w.rl e e']
        by_cases h : s' = s
        · rw [if_pos h, if_pos h]; rfl
        · rw [if_neg h, if_neg h]
      | some x =>
        simp only [fillR, e]
        rw [if_neg (by rintro rfl; rw [e'] at e; cases e)]
    · have a' := par_ne e' h1
      have p128 := (par_up e' h1).1
      rw [num_some e' h1, num_some e' h1, ih]
      by_cases hq : q' = s
      · rw [if_pos hq, if_neg (by omega), hq, h0]
        unfold sub
        rw [if_neg (by omega), if_pos rfl, b2, num4_zeros]
      · rw [if_neg hq]
        by_cases h : num Z R q' = 0
        · rw [if_neg (by rintro rfl; exact hp _ _ e' h)]
          unfold sub
          rw [if_pos h, if_pos h]
        · unfold sub
          rw [if_neg h, if_neg h]
          by_cases hqq : ∃ p, par s = some (q', p)
          · obtain ⟨p, e⟩ := hqq
            have pp := (par_up e hs).1
            have ez : fillZ Z R s m (num Z R q') = set4 (Z (num Z R q')) p m := by
              simp only [fillZ, e]; exact up_at _ _ _
            rw [ez, num4_set (hl _ (w.rng q' a'.2.1 h).2.1) pp p128 (by omega)]
            by_cases hpp : p' = p
            · rw [if_pos hpp, if_pos]
              subst hpp
              exact par_inj e' e h1 hs
            · rw [if_neg hpp, if_neg (by rintro rfl; rw [e'] at e; cases e; exact hpp rfl)]
          · rw [if_neg (by rintro rfl; exact hqq ⟨_, e'⟩)]
            rw [b3 _ (by have := (w.rng q' a'.2.1 h).1; omega) (ne q' a'.2.1 h) fun q p e y => hqq ⟨p, by rw [e, w.inj q' q a'.2.1 (par_ne e hs).2.1 h y]⟩]
  refine ⟨numb, ?_, ?_, fun s' h1 h2 => ?_, fun s1 s2 h1 h2 h3 h4 => ?_⟩
  · cases e : par s with
    | none => simp only [fillR, e]; exact (setRoot_rr w.rl w.rr (by omega)).1
    | some x => simp only [fillR, e]; exact w.rl
  · cases e : par s with
    | none => simp only [fillR, e]; exact (setRoot_rr w.rl w.rr (by omega)).2
    | some x => simp only [fillR, e]; exact w.rr
  · rw [numb s' h1] at h2 ⊢
    by_cases h : s' = s
    · rw [if_pos h, b1 m f2, if_pos rfl]; exact ⟨f1, f2, rfl⟩
    · rw [if_neg h] at h2 ⊢
      have r := w.rng s' h1 h2
      rw [b1 _ r.2.1, if_neg (ne s' h1 h2)]; exact r
  · rw [numb s1 h1] at h3 h4
    rw [numb s2 h2] at h4
    by_cases e1 : s1 = s
    · by_cases e2 : s2 = s
      · rw [e1, e2]
      · rw [if_pos e1, if_neg e2] at h4
        exact absurd h4.symm (ne s2 h2 (by rw [← h4]; omega))
    · rw [if_neg e1] at h3 h4
      by_cases e2 : s2 = s
      · rw [if_pos e2] at h4
        exact absurd h4 (ne s1 h1 h3)
      · rw [if_neg e2] at h4
        exact w.inj s1 s2 h1 h2 h3 h4
/-! a slot is emptied -/
def dropR (R : List Int) (s : Nat) : List Int := match par s with
  | none => setRoot R s 0
  | some _ => R
def dropZ (Z : Nat → Txt) (R : List Int) (s : Nat) : Nat → Txt := match par s with
  | none => setZ Z (num Z R s) false
  | some (q, p) => up (setZ Z (num Z R s) false) (num Z R q) (set4 (Z (num Z R q)) p 0)
theorem dropZ_at {n s : Nat} {Z : Nat → Txt} {R : List Int} (d : Dim n) (hl : ∀ k, k < n → (Z k).length = 512) (w : Wf n Z R) (hs : s < nS) (h0 : num Z R s ≠ 0) :
    (∀ j, j < n → bit (dropZ Z R s) j = if j = num Z R s then false else bit Z j) ∧
      ∀ b, (geoN n).inodes ≤ b → (∀ q p, par s = some (q, p) → b ≠ num Z R q) → dropZ Z R s b = Z b := by
  obtain ⟨f1, f2, f3⟩ := w.rng s hs h0
  obtain ⟨m1, m2, m3, m4⟩ := d.map f2
  have t : (∀ j, bit (setZ Z (num Z R s) false) j = if j = num Z R s then false else bit Z j) ∧ ∀ b, (geoN n).inodes ≤ b → setZ Z (num Z R s) false b = Z b :=
    ⟨fun j => bit_setZ (hl _ m4) _ _, fun b hb => setZ_ne (by omega)⟩
  cases e : par s with
  | none =>
    simp only [dropZ, e]
    exact ⟨fun j _ => t.1 j, fun b h1 _ => t.2 b h1⟩
  | some x =>
    obtain ⟨q, p⟩ := x
    simp only [dropZ, e]
    have a := par_ne e hs
    by_cases hq : num Z R q = 0
    · exfalso
      rw [num_some e hs] at h0
      unfold sub at h0
      rw [if_pos hq] at h0; exact h0 rfl
    have r := w.rng q a.2.1 hq
    refine ⟨fun j hj => ?_, fun b h1 h2 => ?_⟩
    · rw [bit_up (by have := (d.map hj).2; omega)]; exact t.1 j
    · rw [up_ne _ _ (h2 q p rfl)]; exact t.2 b h1
theorem Wf.drop {n s : Nat} {Z : Nat → Txt} {R : List Int} (d : Dim n) (hl : ∀ k, k < n → (Z k).length = 512) (w : Wf n Z R) (hs : s < nS) (h0 : num Z R s ≠ 0) (hc : ∀ s' p, s' < nS → par s' = some (s, p) → num Z R s' = 0) :
    (∀ s', s' < nS → num (dropZ Z R s) (dropR R s) s' = if s' = s then 0 else num Z R s') ∧ Wf n (dropZ Z R s) (dropR R s) := by
  obtain ⟨f1, f2, f3⟩ := w.rng s hs h0
  obtain ⟨b1, b3⟩ := dropZ_at d hl w hs h0
  have hi := (d.map f2).2.2.1
  have numb : ∀ s', s' < nS → num (dropZ Z R s) (dropR R s) s' = if s' = s then 0 else num Z R s' := by
    refine slots (fun s' h1 e' => ?_) fun s' q' p' h1 e' ih => ?_
    · rw [num_none e', num_none e']
      cases e : par s with
      | none =>
        simp only [dropR, e]
        rw [root_set w.rl e e']
        by_cases h : s' = s
        · rw [if_pos h, if_pos h]; rfl
        · rw [if_neg h, if_neg h]
      | some x =>
        simp only [dropR, e]
        rw [if_neg (by rintro rfl; rw [e'] at e; cases e)]
    · have a' := par_ne e' h1
      have p128 := (par_up e' h1).1
      rw [num_some e' h1, ih]
      by_cases hq : q' = s
      · rw [if_pos hq, if_neg (by omega), hc s' p' h1 (by rw [← hq]; exact e')]
        unfold sub
        rw [if_pos rfl]
      · rw [if_neg hq, num_some e' h1]
        by_cases h : num Z R q' = 0
        · unfold sub
          rw [if_pos h, if_pos h]; split <;> rfl
        · unfold sub
          rw [if_neg h, if_neg h]
          by_cases hqq : ∃ p, par s = some (q', p)
          · obtain ⟨p, e⟩ := hqq
            have pp := (par_up e hs).1
            have ez : dropZ Z R s (num Z R q') = set4 (Z (num Z R q')) p 0 := by
              simp only [dropZ, e]; exact up_at _ _ _
            rw [ez, num4_set (hl _ (w.rng q' a'.2.1 h).2.1) pp p128 (by omega)]
            by_cases hpp : p' = p
            · rw [if_pos hpp, if_pos]
              subst hpp
              exact par_inj e' e h1 hs
            · rw [if_neg hpp, if_neg (by rintro rfl; rw [e'] at e; cases e; exact hpp rfl)]
          · rw [if_neg (by rintro rfl; exact hqq ⟨_, e'⟩)]
            rw [b3 _ (by have := (w.rng q' a'.2.1 h).1; omega) fun q p e y => hqq ⟨p, by rw [e, w.inj q' q a'.2.1 (par_ne e hs).2.1 h y]⟩]
  refine ⟨numb, ?_, ?_, fun s' h1 h2 => ?_, fun s1 s2 h1 h2 h3 h4 => ?_⟩
  · cases e : par s with
    | none => simp only [dropR, e]; exact (setRoot_rr w.rl w.rr (by omega)).1
    | some x => simp only [dropR, e]; exact w.rl
  · cases e : par s with
    | none => simp only [dropR, e]; exact (setRoot_rr w.rl w.rr (by omega)).2
    | some x => simp only [dropR, e]; exact w.rr
  · rw [numb s' h1] at h2 ⊢
    by_cases h : s' = s
    · rw [if_pos h] at h2; exact absurd rfl h2
    · rw [if_neg h] at h2 ⊢
      have r := w.rng s' h1 h2
      rw [b1 _ r.2.1, if_neg fun y => h (w.inj s' s h1 hs h2 y)]; exact r
  · rw [numb s1 h1] at h3 h4
    rw [numb s2 h2] at h4
    by_cases e1 : s1 = s
    · rw [if_pos e1] at h3; exact absurd rfl h3
    · rw [if_neg e1] at h3 h4
      by_cases e2 : s2 = s
      · rw [if_pos e2] at h4; exact absurd h4 h3
      · rw [if_neg e2] at h4
        exact w.inj s1 s2 h1 h2 h3 h4
/-! how many blocks a record has -/
def many (Z : Nat → Txt) (R : List Int) : Nat := cnt (fun s => decide (num Z R s ≠ 0)) nS
theorem many_fill {m s : Nat} {Z : Nat → Txt} {R : List Int} (hm : m ≠ 0) (hs : s < nS) (h0 : num Z R s = 0) {Z' : Nat → Txt} {R' : List Int} (h : ∀ s', s' < nS → num Z' R' s' = if s' = s then m else num Z R s') : many Z' R' = many Z R + 1 := by
  have e : many Z' R' = cnt (fun s' => decide ((if s' = s then m else num Z R s') ≠ 0)) nS := cnt_congr fun j hj => by rw [h j hj]
  rw [e]
  have := cnt_upd (p := fun s' => decide (num Z R s' ≠ 0)) (q := fun s' => decide ((if s' = s then m else num Z R s') ≠ 0)) (i := s) (fun j hj => by simp only [if_neg hj]) (by simp only [h0]; rfl) (by simp only [if_pos]; exact decide_eq_true hm) nS
  rw [if_pos hs] at this
  exact this
theorem frees_bits {n m : Nat} {Z Z' : Nat → Txt} (h1 : (geoN n).data ≤ m) (h2 : m < n) (hz : bit Z m = false) (h : ∀ j, j < n → bit Z' j = if j = m then true else bit Z j) : frees n Z = frees n Z' + 1 := by
  have := cnt_upd (p := isFree n Z') (q := isFree n Z) (i := m) (fun j hj => by
      unfold isFree
      by_cases hjn : j < n
      · rw [h j hjn, if_neg hj]
      · rw [decide_eq_false hjn]; simp) (by
      unfold isFree
      rw [h m h2, if_pos rfl]; simp) (isFree_iff.mpr ⟨h1, h2, hz⟩) n
  rw [if_pos h2] at this
  exact this
end Go.Proofs.YtcdpakjhjmchhaaGreatDoor.Bm
/-
  WHICH BLOCKS A FILE HAS, plainly: Find and Add.
-/
namespace Go.Proofs.YtcdpakjhjmchhaaGreatDoor.Bm
open Go Go.Proofs Go.Proofs.YtcdpakjhjmchhaaGreatDoor.Wx Go.Proofs.YtcdpakjhjmchhaaGreatDoor.Hp Go.Proofs.YtcdpakjhjmchhaaGreatDoor.W Go.Proofs.YtcdpakjhjmchhaaGreatDoor.Ad Go.Proofs.YtcdpakjhjmchhaaGreatDoor.Tm Go.Proofs.YtcdpakjhjmchhaaGreatDoor.Bt Go.Proofs.YtcdpakjhjmchhaaGreatDoor.Spc Go.Proofs.YtcdpakjhjmchhaaGreatDoor.Re Go.Proofs.YtcdpakjhjmchhaaGreatDoor.Av

/-- the number of a step, at the table at_: the number, the table's bytes, the error -/
def numM (T : TM) (R : List Int) (s : Nat × Nat) (at_ : Int) : Int × Txt × Int :=
  if s.1 = 0 then (R.getD (3 + s.2) 0, [], 0) else if s.1 = 1 then (R.getD 13 0, [], 0) else if s.1 = 2 then (R.getD 14 0, [], 0) else
    if (T.read at_).2 ≠ 0 then (0, [], (T.read at_).2) else ((num4 (T.read at_).1 s.2 : Nat), (T.read at_).1, 0)
def lookM (g : G) (v : Int) : Int := if v < g.data ∨ v ≥ g.blocks then 100 else 0
def setM (T : TM) (R : List Int) (s : Nat × Nat) (at_ : Int) (b : Txt) (v : Int) : (TM × List Int) × Int :=
  if s.1 = 0 then ((T, R.set (3 + s.2) v), 0) else if s.1 = 1 then ((T, R.set 13 v), 0) else if s.1 = 2 then ((T, R.set 14 v), 0) else
    (((T.write at_ (set4 b s.2 v.toNat)).1, R), (T.write at_ (set4 b s.2 v.toNat)).2)
def walkF (T : TM) (g : G) (R : List Int) : List (Nat × Nat) → Int → Int × Int
  | [], a => (a, 0)
  | s :: r, a => if (numM T R s a).2.2 ≠ 0 then (0, (numM T R s a).2.2) else if (numM T R s a).1 = 0 then (0, 0) else
      if lookM g (numM T R s a).1 ≠ 0 then (0, lookM g (numM T R s a).1) else walkF T g R r (numM T R s a).1
def walkA (g : G) : List (Nat × Nat) → TM → List Int → Int → (TM × List Int) × Int × Int
  | [], T, R, a => ((T, R), a, 0)
  | s :: r, T, R, a => if (numM T R s a).2.2 ≠ 0 then ((T, R), 0, (numM T R s a).2.2) else if (numM T R s a).1 ≠ 0 then
      if lookM g (numM T R s a).1 ≠ 0 then ((T, R), 0, lookM g (numM T R s a).1) else walkA g r T R (numM T R s a).1
    else if (takeM T g).2.2 ≠ 0 then (((takeM T g).1, R), 0, (takeM T g).2.2) else
      if (setM (takeM T g).1 R s a (numM T R s a).2.1 (takeM T g).2.1).2 ≠ 0 then ((setM (takeM T g).1 R s a (numM T R s a).2.1 (takeM T g).2.1).1, 0, (setM (takeM T g).1 R s a (numM T R s a).2.1 (takeM T g).2.1).2) else
      if (takeM T g).2.1 = 0 then ((setM (takeM T g).1 R s a (numM T R s a).2.1 (takeM T g).2.1).1, 0, 0) else
      if lookM g (takeM T g).2.1 ≠ 0 then ((setM (takeM T g).1 R s a (numM T R s a).2.1 (takeM T g).2.1).1, 0, lookM g (takeM T g).2.1) else
        walkA g r (setM (takeM T g).1 R s a (numM T R s a).2.1 (takeM T g).2.1).1.1 (setM (takeM T g).1 R s a (numM T R s a).2.1 (takeM T g).2.1).1.2 (takeM T g).2.1
def wayM (k : Nat) : List (Nat × Nat) := if k < 10 then [(0, k)] else if k < 138 then [(1, 0), (3, k - 10)] else [(2, 0), (3, (k - 138) / 128), (3, (k - 138) % 128)]
def z15 : List Int := List.replicate 15 0
def findM (T : TM) (g : G) (R : List Int) (k : Int) : Int × Int := if k < 0 ∨ k ≥ 16522 then (0, 101) else walkF T g R (wayM k.toNat) 0
def addM (T : TM) (g : G) (R : List Int) (k : Int) : TM × List Int × Int × Int :=
  if k < 0 ∨ k ≥ 16522 then (T, z15, 0, 101) else
    if (walkA g (wayM k.toNat) T R 0).2.2 ≠ 0 then (((walkA g (wayM k.toNat) T R 0).1.1.back T.undo.length).1, z15, 0, (walkA g (wayM k.toNat) T R 0).2.2)
      else ((walkA g (wayM k.toNat) T R 0).1.1, (walkA g (wayM k.toNat) T R 0).1.2, (walkA g (wayM k.toNat) T R 0).2.1, 0)
/-! the way, slot by slot -/
def stepOf (s : Nat) : Nat × Nat := if s < 10 then (0, s) else if s = 16522 then (1, 0) else if s = 16523 then (2, 0) else (3, ((par s).getD (0, 0)).2)
def path (k : Nat) : List Nat := if k < 10 then [k] else if k < 138 then [16522, k] else [16523, 16524 + (k - 138) / 128, k]
/-- slots one behind the other, each in the table of the one ahead -/
def Chain : Option Nat → List Nat → Prop
  | _, [] => True
  | o, s :: r => s < nS ∧ (match o with | none => par s = none | some q => ∃ p, par s = some (q, p)) ∧ s ∉ r ∧ Chain (some s) r
theorem path_chain {k : Nat} (hk : k < 16522) : Chain none (path k) ∧ (path k).map stepOf = wayM k := by
  unfold path wayM
  by_cases h1 : k < 10
  · rw [if_pos h1, if_pos h1]
    refine ⟨⟨by unfold nS; omega, by unfold par; exact if_pos h1, by simp, trivial⟩, ?_⟩
    simp only [List.map_cons, List.map_nil, stepOf, if_pos h1]
  · rw [if_neg h1, if_neg h1]
    by_cases h2 : k < 138
    · rw [if_pos h2, if_pos h2]
      have e : par k = some (16522, k - 10) := by unfold par; rw [if_neg h1, if_pos h2]
      refine ⟨⟨by decide, by decide, by simp; omega, by unfold nS; omega, ⟨_, e⟩, by simp, trivial⟩, ?_⟩
      simp only [List.map_cons, List.map_nil, stepOf, if_neg h1, e]
      rw [if_neg (show ¬ 16522 < 10 by decide), if_pos trivial, if_neg (by omega), if_neg (by omega)]; rfl
    · rw [if_neg h2, if_neg h2]
      have e : par k = some (16524 + (k - 138) / 128, (k - 138) % 128) := by unfold par; rw [if_neg h1, if_neg h2, if_pos hk]
      have e2 : par (16524 + (k - 138) / 128) = some (16523, (k - 138) / 128) := par_table (by omega)
      refine ⟨⟨by decide, by decide, by simp; omega, by unfold nS; omega, ⟨_, e2⟩, by simp; omega, by unfold nS; omega, ⟨_, e⟩, by simp, trivial⟩, ?_⟩
      simp only [List.map_cons, List.map_nil, stepOf, if_neg h1, e, e2]
      rw [if_neg (show ¬ 16523 < 10 by decide), if_neg (show ¬ 16523 = 16522 by decide), if_pos trivial, if_neg (by omega), if_neg (by omega), if_neg (by omega), if_neg (by omega), if_neg (by omega)]; rfl
theorem root_num {n : Nat} {Z : Nat → Txt} {R : List Int} {s : Nat} (w : Wf n Z R) (hs : s < nS) (h : par s = none) : root R s = (num Z R s : Nat) := by
  rw [num_none h]
  have a := par_none h
  have : 0 ≤ root R s := by
    unfold root
    split
    · exact w.rr _ (by omega) (by omega)
    · split
      · exact w.rr _ (by omega) (by omega)
      · exact w.rr _ (by omega) (by omega)
  omega
/-- where a step's number stands -/
def at_ (Z : Nat → Txt) (R : List Int) : Option Nat → Int
  | none => 0
  | some q => (num Z R q : Nat)
def tabO (Z : Nat → Txt) (R : List Int) : Option Nat → Txt
  | none => []
  | some q => Z (num Z R q)
theorem numM_tab (T : TM) (R : List Int) (p : Nat) (a : Int) : numM T R (3, p) a = if (T.read a).2 ≠ 0 then ((0 : Int), ([] : Txt), (T.read a).2) else (((num4 (T.read a).1 p : Nat) : Int), (T.read a).1, (0 : Int)) := rfl
theorem stepOf_table {s q p : Nat} (h : par s = some (q, p)) (hs : s < nS) : stepOf s = (3, p) := by
  have b := par_up h hs
  unfold stepOf
  rw [h, if_neg (by omega), if_neg (by unfold nS at *; omega), if_neg (by unfold nS at *; omega)]; rfl
theorem step_num {n : Nat} {Z : Nat → Txt} {R : List Int} {T : TM} {o : Option Nat} {s : Nat} {r : List Nat} (a : Av n Z T) (w : Wf n Z R) (c : Chain o (s :: r)) (ho : ∀ q, o = some q → q < nS ∧ num Z R q ≠ 0) :
    numM T R (stepOf s) (at_ Z R o) = (((num Z R s : Nat) : Int), tabO Z R o, 0) := by
  obtain ⟨hs, hp, _, _⟩ := c
  cases o with
  | none =>
    have hp : par s = none := hp
    have e := root_num w hs hp
    have b := par_none hp
    rcases b with h1 | rfl | rfl
    · have es : stepOf s = (0, s) := by unfold stepOf; rw [if_pos h1]
      rw [es, ← e]
      unfold root
      rw [if_pos h1]; rfl
    · rw [← e]; rfl
    · rw [← e]; rfl
  | some q =>
    obtain ⟨p, hp⟩ := hp
    obtain ⟨hq, h0⟩ := ho q rfl
    have ru := w.rng q hq h0
    rw [stepOf_table hp hs, numM_tab]
    have ez : at_ Z R (some q) = ((num Z R q : Nat) : Int) := rfl
    rw [ez, a.z _ ru.2.1, if_neg (fun y => y rfl), num_some hp hs]
    unfold sub
    rw [if_neg h0]; rfl
theorem look_ok {n : Nat} {v : Nat} (h1 : (geoN n).data ≤ v) (h2 : v < n) : lookM (geoN n) (v : Int) = 0 := by
  unfold lookM
  have : (geoN n).blocks = n := rfl
  rw [if_neg (by omega)]
/-! Find -/
theorem walkF_ok {n : Nat} {Z : Nat → Txt} {R : List Int} {T : TM} (a : Av n Z T) (w : Wf n Z R) : ∀ (r : List Nat) (o : Option Nat), Chain o r → (∀ q, o = some q → q < nS ∧ num Z R q ≠ 0) →
    walkF T (geoN n) R (r.map stepOf) (at_ Z R o) = (((match r.getLast? with | none => at_ Z R o | some s => (num Z R s : Nat)) : Int), 0)
  | [], o, _, _ => rfl
  | s :: r, o, c, ho => by
    have e := step_num a w c ho
    show walkF T (geoN n) R (stepOf s :: r.map stepOf) (at_ Z R o) = _
    unfold walkF
    rw [e]
    simp only
    rw [if_neg (fun y => y rfl)]
    obtain ⟨hs, _, _, c'⟩ := c
    have below : num Z R s = 0 → ∀ (l : List Nat) (x : Nat), Chain (some x) l → num Z R x = 0 → ∀ y ∈ l, num Z R y = 0 := fun _ l => by
      induction l with
      | nil => intro x _ _ y hy; cases hy
      | cons y l ih =>
        intro x c h0 z hz
        obtain ⟨h1, ⟨p, h2⟩, _, h4⟩ := c
        have hy : num Z R y = 0 := by rw [num_some h2 h1, h0]; exact if_pos rfl
        rcases List.mem_cons.mp hz with rfl | hz
        · exact hy
        · exact ih y h4 hy z hz
    by_cases h0 : num Z R s = 0
    · rw [if_pos (by omega)]
      have hl : (match (s :: r).getLast? with | none => at_ Z R o | some s => ((num Z R s : Nat) : Int)) = 0 := by
        cases hg : (s :: r).getLast? with
        | none => rw [List.getLast?_eq_none_iff] at hg; cases hg
        | some x =>
          have hx := List.mem_of_getLast? hg
          show ((num Z R x : Nat) : Int) = 0
          rcases List.mem_cons.mp hx with rfl | hx
          · omega
          · rw [below h0 r s c' h0 x hx]; rfl
      rw [hl]
    · have ru := w.rng s hs h0
      rw [if_neg (by omega), look_ok ru.1 ru.2.1, if_neg (fun y => y rfl)]
      have := walkF_ok a w r (some s) c' fun q e => by cases e; exact ⟨hs, h0⟩
      have ea : at_ Z R (some s) = ((num Z R s : Nat) : Int) := rfl
      rw [ea] at this
      rw [this]
      cases r with
      | nil => rfl
      | cons y r =>
        rw [List.getLast?_cons_cons]
        cases hg : (y :: r).getLast? with
        | none => rw [List.getLast?_eq_none_iff] at hg; cases hg
        | some x => rfl
theorem path_last (k : Nat) : (path k).getLast? = some k := by
  unfold path
  split
  · rfl
  · split <;> rfl
theorem find_ok {n : Nat} {Z : Nat → Txt} {R : List Int} {T : TM} (a : Av n Z T) (w : Wf n Z R) {k : Nat} (hk : k < 16522) : findM T (geoN n) R k = (((num Z R k : Nat) : Int), 0) := by
  obtain ⟨c, e⟩ := path_chain hk
  unfold findM
  rw [if_neg (by omega)]
  have := walkF_ok a w (path k) none c fun q y => by cases y
  rw [e, path_last] at this
  exact this
/-! Add -/
/-- how many slots of a way are empty -/
def miss (Z : Nat → Txt) (R : List Int) : List Nat → Nat
  | [] => 0
  | s :: r => (if num Z R s = 0 then 1 else 0) + miss Z R r
theorem miss_congr {Z Z' : Nat → Txt} {R R' : List Int} : ∀ {l : List Nat}, (∀ s ∈ l, num Z' R' s = num Z R s) → miss Z' R' l = miss Z R l
  | [], _ => rfl
  | s :: r, h => by
    show (if num Z' R' s = 0 then 1 else 0) + _ = (if num Z R s = 0 then 1 else 0) + _
    rw [h s (List.mem_cons_self ..), miss_congr fun x hx => h x (List.mem_cons_of_mem _ hx)]
theorem chain_nS : ∀ {l : List Nat} {o : Option Nat}, Chain o l → ∀ s ∈ l, s < nS
  | [], _, _, s, h => by cases h
  | x :: r, _, c, s, h => by
    rcases List.mem_cons.mp h with rfl | h
    · exact c.1
    · exact chain_nS c.2.2.2 s h
/-- all blocks from nx on are free, and no other data block -/
def From_ (n : Nat) (Z : Nat → Txt) (nx : Nat) : Prop := ∀ j, isFree n Z j = true ↔ nx ≤ j ∧ j < n
/-- a way was gone and filled; o: the table in which it begins -/
structure Added (n : Nat) (Z : Nat → Txt) (R : List Int) (o : Option Nat) (l : List Nat) (Z' : Nat → Txt) (R' : List Int) : Prop where
  w : Wf n Z' R'
  off : ∀ s, s < nS → s ∉ l → num Z' R' s = num Z R s
  old : ∀ s ∈ l, num Z R s ≠ 0 → num Z' R' s = num Z R s
  got : ∀ s ∈ l, num Z' R' s ≠ 0
  bits : ∀ j, j < n → bit Z j = true → bit Z' j = true
  many : many Z' R' = many Z R + miss Z R l
  frees : frees n Z = frees n Z' + miss Z R l
  head : ∀ i, i < 3 → R'.getD i 0 = R.getD i 0
  cont : ∀ b, b < n → (geoN n).inodes ≤ b → (b < (geoN n).data ∨ bit Z b = true) → (∀ q ∈ l, b ≠ num Z' R' q) → (∀ q, o = some q → b ≠ num Z R q) → Z' b = Z b
  zero : ∀ s ∈ l, s < 16522 → num Z R s = 0 → Z' (num Z' R' s) = zeros
  low : ∀ nx, From_ n Z nx → From_ n Z' (nx + miss Z R l) ∧ ∀ i (h : i < l.length), num Z R l[i] = 0 → num Z' R' l[i] = nx + miss Z R (l.take i)
  same : miss Z R l = 0 → Z' = Z ∧ R' = R
theorem Added.nil {n : Nat} {Z : Nat → Txt} {R : List Int} (w : Wf n Z R) (o : Option Nat) : Added n Z R o [] Z R :=
  ⟨w, fun _ _ _ => rfl, fun s h => (by cases h), fun s h => (by cases h), fun _ _ h => h, (Nat.add_zero _).symm, (Nat.add_zero _).symm, fun _ _ => rfl, fun _ _ _ _ _ _ => rfl, fun s h => (by cases h), fun nx h => ⟨h, fun i h => (by cases h)⟩, fun _ => ⟨rfl, rfl⟩⟩
theorem From_.take {n m nx : Nat} {Z Z' : Nat → Txt} (h : From_ n Z nx) (hm : isFree n Z m = true) (hl : ∀ k, k < m → isFree n Z k = false) (hb : ∀ j, j < n → bit Z' j = if j = m then true else bit Z j) : m = nx ∧ From_ n Z' (nx + 1) := by
  have h1 := (h m).mp hm
  have e : m = nx := by
    rcases Nat.lt_or_ge nx m with y | y
    · have := (h nx).mpr ⟨Nat.le_refl _, by omega⟩
      rw [hl nx y] at this; cases this
    · omega
  refine ⟨e, fun j => ?_⟩
  rw [isFree_iff]
  have hj := h j
  rw [isFree_iff] at hj
  constructor
  · rintro ⟨a, b, c⟩
    rw [hb j b] at c
    by_cases hjm : j = m
    · rw [if_pos hjm] at c; cases c
    · rw [if_neg hjm] at c
      have := hj.mp ⟨a, b, c⟩
      omega
  · rintro ⟨a, b⟩
    obtain ⟨x, y, z⟩ := hj.mpr ⟨by omega, b⟩
    refine ⟨x, y, ?_⟩
    rw [hb j b, if_neg (by omega)]; exact z
/-- a slot that was full already -/
theorem Added.skip {n : Nat} {Z Z' : Nat → Txt} {R R' : List Int} {s : Nat} {r : List Nat} {o : Option Nat} (a : Added n Z R (some s) r Z' R') (hs : s < nS) (hn : s ∉ r) (h0 : num Z R s ≠ 0) : Added n Z R o (s :: r) Z' R' := by
  have em : miss Z R (s :: r) = miss Z R r := by show (if num Z R s = 0 then 1 else 0) + _ = _; rw [if_neg h0]; omega
  have eo := a.off s hs hn
  refine ⟨a.w, fun x hx hxn => a.off x hx fun h => hxn (List.mem_cons_of_mem _ h), fun x hx h => ?_, fun x hx => ?_, a.bits, by rw [em]; exact a.many, by rw [em]; exact a.frees, a.head, fun b h1 h2 h3 h4 _ => a.cont b h1 h2 h3 (fun q hq => h4 q (List.mem_cons_of_mem _ hq)) fun q e => ?_, fun x hx h1 h2 => ?_, fun nx h => ⟨by rw [em]; exact (a.low nx h).1, fun i hi hz => ?_⟩, by rw [em]; exact a.same⟩
  · rcases List.mem_cons.mp hx with rfl | hx
    · exact eo
    · exact a.old x hx h
  · rcases List.mem_cons.mp hx with rfl | hx
    · rw [eo]; exact h0
    · exact a.got x hx
  · cases e
    have := h4 s (List.mem_cons_self ..)
    rw [eo] at this; exact this
  · rcases List.mem_cons.mp hx with rfl | hx
    · exact absurd h2 h0
    · exact a.zero x hx h1 h2
  · cases i with
    | zero => exact absurd hz h0
    | succ i =>
      rw [List.getElem_cons_succ] at hz ⊢
      rw [(a.low nx h).2 i (by rw [List.length_cons] at hi; omega) hz, List.take_succ_cons]
      show _ = nx + ((if num Z R s = 0 then 1 else 0) + miss Z R (r.take i))
      rw [if_neg h0, Nat.zero_add]
theorem fillR_head {R : List Int} (s m : Nat) (hl : R.length = 15) : ∀ i, i < 3 → (fillR R s m).getD i 0 = R.getD i 0 := fun i hi => by
  unfold fillR
  split
  · unfold setRoot
    split
    · exact (getD_set _ _ _ _ _ (by omega)).trans (if_neg (by omega))
    · split
      · exact (getD_set _ _ _ _ _ (by omega)).trans (if_neg (by omega))
      · exact (getD_set _ _ _ _ _ (by omega)).trans (if_neg (by omega))
  · rfl
/-- a slot that is filled, and what follows -/
theorem Added.step {n m : Nat} {Z Z' : Nat → Txt} {R R' : List Int} {s : Nat} {r : List Nat} {o : Option Nat} (d : Dim n) (hl : ∀ k, k < n → (Z k).length = 512) (w : Wf n Z R) (c : Chain o (s :: r)) (h0 : num Z R s = 0) (ho : ∀ q, o = some q → q < nS ∧ num Z R q ≠ 0) (hf : isFree n Z m = true) (hlow : ∀ k, k < m → isFree n Z k = false)
    (a : Added n (fillZ Z R s m) (fillR R s m) (some s) r Z' R') : Added n Z R o (s :: r) Z' R' := by
  obtain ⟨hs, hpo, hn, c'⟩ := c
  have hp : ∀ q p, par s = some (q, p) → o = some q ∧ num Z R q ≠ 0 := fun q p e => by
    cases o with
    | none =>
      have hpo : par s = none := hpo
      rw [hpo] at e; cases e
    | some q' =>
      obtain ⟨p', hpo⟩ := hpo
      rw [hpo] at e; cases e
      exact ⟨rfl, (ho _ rfl).2⟩
  obtain ⟨f1, f2, f3⟩ := isFree_iff.mp hf
  have hd := d.data
  obtain ⟨N1, W1⟩ := Wf.fill d hl w hs h0 (fun q p e => (hp q p e).2) hf
  obtain ⟨b1, b2, b3⟩ := fillZ_at d hl w hs (fun q p e => (hp q p e).2) hf
  have ne : ∀ x ∈ r, x ≠ s := fun x hx e => hn (e ▸ hx)
  have rn : ∀ x ∈ r, x < nS := chain_nS c'
  have Nr : ∀ x ∈ r, num (fillZ Z R s m) (fillR R s m) x = num Z R x := fun x hx => by rw [N1 x (rn x hx), if_neg (ne x hx)]
  have mr : ∀ l : List Nat, (∀ x ∈ l, x ∈ r) → miss (fillZ Z R s m) (fillR R s m) l = miss Z R l := fun l h => miss_congr fun x hx => Nr x (h x hx)
  have ms : miss Z R (s :: r) = 1 + miss Z R r := by show (if num Z R s = 0 then 1 else 0) + _ = _; rw [if_pos h0]
  have es : num Z' R' s = m := by rw [a.off s hs hn, N1 s hs, if_pos rfl]
  refine ⟨a.w, fun x hx hxn => ?_, fun x hx h => ?_, fun x hx => ?_, fun j hj h => a.bits j hj (by rw [b1 j hj]; split <;> first | rfl | exact h), ?_, ?_, fun i hi => (a.head i hi).trans (fillR_head s m w.rl i hi), fun b h1 h2 h3 h4 h5 => ?_, fun x hx h1 h2 => ?_, fun nx h => ?_, fun h => by omega⟩
  · rw [a.off x hx fun h => hxn (List.mem_cons_of_mem _ h), N1 x hx, if_neg (fun e : x = s => hxn (by rw [e]; exact List.mem_cons_self ..))]
  · rcases List.mem_cons.mp hx with rfl | hx
    · exact absurd h0 h
    · rw [a.old x hx (by rw [Nr x hx]; exact h), Nr x hx]
  · rcases List.mem_cons.mp hx with rfl | hx
    · rw [es]; omega
    · exact a.got x hx
  · have q1 := many_fill (show m ≠ 0 by omega) hs h0 N1
    have q2 := a.many
    rw [mr r fun _ h => h] at q2
    omega
  · have q1 := frees_bits f1 f2 f3 b1
    have q2 := a.frees
    rw [mr r fun _ h => h] at q2
    omega
  · have hbm : b ≠ m := fun e => h4 s (List.mem_cons_self ..) (by rw [es]; exact e)
    have e1 : fillZ Z R s m b = Z b := b3 b h2 hbm fun q p e => h5 q (hp q p e).1
    rw [← e1]
    refine a.cont b h1 h2 (h3.imp id fun y => ?_) (fun q hq => h4 q (List.mem_cons_of_mem _ hq)) fun q e => ?_
    · rw [b1 b h1]; split
      · rfl
      · exact y
    · cases e
      rw [N1 s hs, if_pos rfl]; exact hbm
  · rcases List.mem_cons.mp hx with rfl | hx
    · have er : r = [] := by
        cases r with
        | nil => rfl
        | cons y r =>
          obtain ⟨hy, ⟨p, e⟩, _⟩ := c'
          have := (par_ne e hy).2.2
          omega
      subst er
      obtain ⟨e1, e2⟩ := a.same rfl
      rw [es, e1]; exact b2
    · exact a.zero x hx h1 (by rw [Nr x hx]; exact h2)
  · obtain ⟨e1, h'⟩ := h.take hf hlow b1
    obtain ⟨q1, q2⟩ := a.low (nx + 1) h'
    refine ⟨?_, fun i hi hz => ?_⟩
    · rw [mr r fun _ h => h] at q1
      rw [ms, show nx + (1 + miss Z R r) = nx + 1 + miss Z R r by omega]; exact q1
    · cases i with
      | zero =>
        show num Z' R' s = nx + 0
        rw [es, e1]; rfl
      | succ i =>
        have hi' : i < r.length := by rw [List.length_cons] at hi; omega
        rw [List.getElem_cons_succ] at hz ⊢
        rw [q2 i hi' (by rw [Nr _ (List.getElem_mem hi')]; exact hz), List.take_succ_cons, mr (r.take i) fun x hx => List.mem_of_mem_take hx]
        show _ = nx + ((if num Z R s = 0 then 1 else 0) + miss Z R (r.take i))
        rw [if_pos h0]; omega
theorem setM_root {T : TM} {R : List Int} {s : Nat} {a : Int} {b : Txt} {m : Nat} (h : par s = none) : setM T R (stepOf s) a b m = ((T, fillR R s m), 0) := by
  rcases par_none h with h1 | rfl | rfl
  · have es : stepOf s = (0, s) := by unfold stepOf; rw [if_pos h1]
    have ef : fillR R s m = R.set (3 + s) m := by unfold fillR setRoot; rw [h]; simp only [if_pos h1]
    rw [es, ef]; rfl
  · rfl
  · rfl
theorem keys_le {l m k : List Int} (h : m.Nodup) (hs : ∀ x ∈ m, x ∈ k ∨ x ∈ l) : m.length ≤ k.length + l.length := by
  have := nodup_len (l := m) (m := k ++ l) h fun x hx => List.mem_append.mpr (hs x hx)
  rw [List.length_append] at this
  exact this
/-- what the walk of Add comes to -/
inductive AddR (n : Nat) (Z : Nat → Txt) (T : TM) (R : List Int) (o : Option Nat) (l : List Nat) (res : (TM × List Int) × Int × Int) : Prop where
  | ok (Z' : Nat → Txt) : res.2 = (at_ Z' res.1.2 (match l.getLast? with | none => o | some s => some s), 0) → Av n Z' res.1.1 → Added n Z R o l Z' res.1.2 → (miss Z R l = 0 → res.1.1 = T) → (∀ x ∈ ks res.1.1, x ∈ ks T ∨ x < (geoN n).inodes ∨ (∃ s ∈ l, x = (num Z' res.1.2 s : Nat)) ∨ ∃ q, o = some q ∧ x = (num Z R q : Nat)) → ((∀ x ∈ ks T, x ∈ ks res.1.1) ∧ ∀ s ∈ l, num Z R s = 0 → ((num Z' res.1.2 s : Nat) : Int) ∈ ks res.1.1) → AddR n Z T R o l res
  | full : res.2 = (0, 60) → 96 ≤ (ks T).length + 3 * l.length → AddR n Z T R o l res
  | none_ : res.2 = (0, 90) → frees n Z < miss Z R l → AddR n Z T R o l res
theorem walkA_ok {n : Nat} (d : Dim n) : ∀ (l : List Nat) (o : Option Nat) (Z : Nat → Txt) (T T0 : TM) (R : List Int), Av n Z T → Wf n Z R → Chain o l → (∀ q, o = some q → q < nS ∧ num Z R q ≠ 0) → Ext T0 T →
    AddR n Z T R o l (walkA (geoN n) (l.map stepOf) T R (at_ Z R o)) ∧ Ext T0 (walkA (geoN n) (l.map stepOf) T R (at_ Z R o)).1.1
  | [], o, Z, T, T0, R, a, w, _, _, ex => ⟨.ok Z rfl a (Added.nil w o) (fun _ => rfl) (fun x hx => .inl hx) ⟨fun x hx => hx, fun s hs => by cases hs⟩, ex⟩
  | s :: r, o, Z, T, T0, R, a, w, c, ho, ex => by
    have e := step_num a w c ho
    have c0 := c
    obtain ⟨hs, hpo, hn, c'⟩ := c
    show AddR n Z T R o (s :: r) (walkA (geoN n) (stepOf s :: r.map stepOf) T R (at_ Z R o)) ∧ Ext T0 (walkA (geoN n) (stepOf s :: r.map stepOf) T R (at_ Z R o)).1.1
    unfold walkA
    rw [e]
    simp only
    rw [if_neg (fun y => y rfl)]
    have last : ∀ {Z' : Nat → Txt} {R' : List Int}, at_ Z' R' (match r.getLast? with | none => some s | some s => some s) = at_ Z' R' (match (s :: r).getLast? with | none => o | some s => some s) := fun {Z' R'} => by
      cases r with
      | nil => rfl
      | cons y r =>
        rw [List.getLast?_cons_cons]
        cases hg : (y :: r).getLast? with
        | none => rw [List.getLast?_eq_none_iff] at hg; cases hg
        | some x => rfl
    have hd := d.data
    by_cases h0 : num Z R s = 0
    · rw [if_neg (by omega)]
      rcases a.taken d with ⟨m, hm, hl, et⟩ | ⟨hno, et⟩
      · obtain ⟨f1, f2, f3⟩ := isFree_iff.mp hm
        have hmi := (d.map f2).2.2.1
        rw [et]
        rcases a.take d f1 f2 with ⟨e1, a1, k1⟩ | ⟨e1, h95⟩
        · have ex1 := takeAt_ext ex (geoN n) m
          have e11 : (takeAt T (geoN n) m).2.1 = m := by rw [e1]
          have e12 : (takeAt T (geoN n) m).2.2 = 0 := by rw [e1]
          rw [e12, e11, if_neg (fun y => y rfl)]
          have hlen := a.len
          -- what follows, once the number stands
          have go : ∀ (T2 : TM), Av n (fillZ Z R s m) T2 → Ext T0 T2 → (∀ x ∈ ks T2, x ∈ ks T ∨ x < (geoN n).inodes ∨ x = (m : Nat) ∨ ∃ q, o = some q ∧ x = (num Z R q : Nat)) → (∀ x ∈ ks T, x ∈ ks T2) ∧ ((m : Nat) : Int) ∈ ks T2 → (ks T2).length ≤ (ks T).length + 3 → (∀ q p, par s = some (q, p) → num Z R q ≠ 0) →
              AddR n Z T R o (s :: r) (walkA (geoN n) (r.map stepOf) T2 (fillR R s m) m) ∧ Ext T0 (walkA (geoN n) (r.map stepOf) T2 (fillR R s m) m).1.1 := by
            intro T2 a2 ex2 k2 lw l2 hp
            obtain ⟨N1, W1⟩ := Wf.fill d hlen w hs h0 hp hm
            obtain ⟨b1, b2, b3⟩ := fillZ_at d hlen w hs hp hm
            have ih := walkA_ok d r (some s) (fillZ Z R s m) T2 T0 (fillR R s m) a2 W1 c' (fun q e => by cases e; exact ⟨hs, by rw [N1 s hs, if_pos rfl]; omega⟩) ex2
            have ea : at_ (fillZ Z R s m) (fillR R s m) (some s) = (m : Int) := by show ((num _ _ s : Nat) : Int) = _; rw [N1 s hs, if_pos rfl]
            rw [ea] at ih
            refine ⟨?_, ih.2⟩
            have rn : ∀ x ∈ r, x < nS := chain_nS c'
            have mr : miss (fillZ Z R s m) (fillR R s m) r = miss Z R r := miss_congr fun x hx => by rw [N1 x (rn x hx), if_neg fun e : x = s => hn (by rw [← e]; exact hx)]
            have ms : miss Z R (s :: r) = 1 + miss Z R r := by show (if num Z R s = 0 then 1 else 0) + _ = _; rw [if_pos h0]
            rcases ih.1 with ⟨Z', e', a', ad, _, kk, lk1, lk2⟩ | ⟨e', h96⟩ | ⟨e', hfr⟩
            · have AD := ad.step d hlen w c0 h0 ho hm hl
              refine .ok Z' (by rw [e', last]) a' AD (fun y => by omega) (fun x hx => ?_) ⟨fun x hx => lk1 x (lw.1 x hx), fun x hx h0x => ?_⟩
              · rcases kk x hx with h | h | ⟨s', h1, h2⟩ | ⟨q, h1, h2⟩
                · rcases k2 x h with h | h | h | h
                  · exact .inl h
                  · exact .inr (.inl h)
                  · exact .inr (.inr (.inl ⟨s, List.mem_cons_self .., by rw [h, ad.off s hs hn, N1 s hs, if_pos rfl]⟩))
                  · exact .inr (.inr (.inr h))
                · exact .inr (.inl h)
                · exact .inr (.inr (.inl ⟨s', List.mem_cons_of_mem _ h1, h2⟩))
                · cases h1
                  exact .inr (.inr (.inl ⟨s, List.mem_cons_self .., by rw [h2, ad.off s hs hn]⟩))
              · rcases List.mem_cons.mp hx with rfl | hx
                · rw [ad.off _ hs hn, N1 _ hs, if_pos rfl]
                  exact lk1 _ lw.2
                · exact lk2 x hx (by rw [N1 x (rn x hx), if_neg fun e : x = s => hn (by rw [← e]; exact hx)]; exact h0x)
            · exact .full e' (by rw [List.length_cons]; omega)
            · refine .none_ e' ?_
              rw [frees_bits f1 f2 f3 b1, ms, ← mr]; omega
          have lk := look_ok (n := n) f1 f2
          cases o with
          | none =>
            have hpo : par s = none := hpo
            have ez : fillZ Z R s m = takeZ Z m := by simp only [fillZ, hpo]
            rw [setM_root hpo, if_neg (fun y => y rfl), if_neg (by omega), lk, if_neg (fun y => y rfl)]
            refine go _ (by rw [ez]; exact a1) ex1 (fun x hx => ?_) ⟨fun x hx => (k1 x).mpr (.inl hx), (k1 _).mpr (.inr (.inr rfl))⟩ ?_ fun q p e => by rw [hpo] at e; cases e
            · rcases (k1 x).mp hx with h | h | h
              · exact .inl h
              · exact .inr (.inl (by have := d.map f2; omega))
              · exact .inr (.inr (.inl h))
            · have := Bm.keys_le (l := [((98 + m / 4096 : Nat) : Int), (m : Int)]) a1.keys fun x hx => by
                rcases (k1 x).mp hx with h | h | h
                · exact .inl h
                · exact .inr (by rw [h]; simp)
                · exact .inr (by rw [h]; simp)
              exact Nat.le_trans this (by show _ + 2 ≤ _; omega)
          | some q =>
            obtain ⟨p, hp⟩ := hpo
            obtain ⟨hq, hq0⟩ := ho q rfl
            have ru := w.rng q hq hq0
            have hqm : num Z R q ≠ m := fun y => by have := ru.2.2; rw [y, f3] at this; cases this
            have pp := (par_up hp hs).1
            have hqd := (d.map ru.2.1).2.2.1
            have ez : fillZ Z R s m = up (takeZ Z m) (num Z R q) (set4 (Z (num Z R q)) p m) := by simp only [fillZ, hp]
            have er : fillR R s m = R := by simp only [fillR, hp]
            have es : setM (takeAt T (geoN n) m).1 R (stepOf s) (at_ Z R (some q)) (tabO Z R (some q)) m = ((((takeAt T (geoN n) m).1.write (num Z R q : Nat) (set4 (Z (num Z R q)) p m)).1, R), ((takeAt T (geoN n) m).1.write (num Z R q : Nat) (set4 (Z (num Z R q)) p m)).2) := by
              rw [stepOf_table hp hs]; rfl
            rw [es]
            simp only
            have l5 := set4_length (v := m) (a.len _ ru.2.1) pp
            rcases a1.write_full (i := num Z R q) (bs := set4 (Z (num Z R q)) p m) (by omega) ru.2.1 l5 with h | ⟨h, h96, _⟩
            · rw [if_neg (fun y => y h), if_neg (by omega), lk, if_neg (fun y => y rfl)]
              have k3 := write_keys h
              have a2 := a1.write (by omega) ru.2.1 l5 h
              have kall : ∀ x ∈ ks ((takeAt T (geoN n) m).1.write (num Z R q : Nat) (set4 (Z (num Z R q)) p m)).1, x ∈ ks T ∨ x = ((98 + m / 4096 : Nat) : Int) ∨ x = (m : Nat) ∨ x = (num Z R q : Nat) := fun x hx => by
                rcases (k3 x).mp hx with hx | hx
                · rcases (k1 x).mp hx with h | h | h
                  · exact .inl h
                  · exact .inr (.inl h)
                  · exact .inr (.inr (.inl h))
                · exact .inr (.inr (.inr hx))
              have G := go _ (by rw [ez]; exact a2) (ex1.write _ _) (fun x hx => by
                rcases kall x hx with h | h | h | h
                · exact .inl h
                · exact .inr (.inl (by have := d.map f2; omega))
                · exact .inr (.inr (.inl h))
                · exact .inr (.inr (.inr ⟨q, rfl, h⟩))) ⟨fun x hx => (k3 x).mpr (.inl ((k1 x).mpr (.inl hx))), (k3 _).mpr (.inl ((k1 _).mpr (.inr (.inr rfl))))⟩ (by
                have := Bm.keys_le (l := [((98 + m / 4096 : Nat) : Int), (m : Int), (num Z R q : Int)]) a2.keys fun x hx => by
                  rcases kall x hx with h | h | h | h
                  · exact .inl h
                  · exact .inr (by rw [h]; simp)
                  · exact .inr (by rw [h]; simp)
                  · exact .inr (by rw [h]; simp)
                exact this) fun q' p' e => by rw [hp] at e; cases e; exact hq0
              rw [er] at G
              exact G
            · rw [h, if_pos (show (60 : Int) ≠ 0 by decide)]
              refine ⟨.full rfl ?_, ex1⟩
              have := Bm.keys_le (l := [((98 + m / 4096 : Nat) : Int), (m : Int)]) a1.keys fun x hx => by
                rcases (k1 x).mp hx with h | h | h
                · exact .inl h
                · exact .inr (by rw [h]; simp)
                · exact .inr (by rw [h]; simp)
              have : (ks (takeAt T (geoN n) m).1).length ≤ (ks T).length + 2 := this
              rw [List.length_cons]; omega
        · rw [e1, if_pos (show (60 : Int) ≠ 0 by decide)]
          exact ⟨.full rfl (by rw [List.length_cons]; omega), ex⟩
      · rw [et, if_pos (show (90 : Int) ≠ 0 by decide)]
        refine ⟨.none_ rfl ?_, ex⟩
        have : frees n Z = 0 := cnt_zero fun j _ => hno j
        show frees n Z < (if num Z R s = 0 then 1 else 0) + _
        rw [if_pos h0]; omega
    · have ru := w.rng s hs h0
      rw [if_pos (by omega), look_ok ru.1 ru.2.1, if_neg (fun y => y rfl)]
      obtain ⟨ih, ex'⟩ := walkA_ok d r (some s) Z T T0 R a w c' (fun q e => by cases e; exact ⟨hs, h0⟩) ex
      have ea : at_ Z R (some s) = ((num Z R s : Nat) : Int) := rfl
      rw [ea] at ih ex'
      refine ⟨?_, ex'⟩
      have em : miss Z R (s :: r) = miss Z R r := by show (if num Z R s = 0 then 1 else 0) + _ = _; rw [if_neg h0]; omega
      rcases ih with ⟨Z', e', a', ad, sm, kk, lk1, lk2⟩ | ⟨e', h96⟩ | ⟨e', hfr⟩
      · refine .ok Z' (by rw [e', last]) a' (ad.skip hs hn h0) (by rw [em]; exact sm) (fun x hx => ?_) ⟨lk1, fun x hx h0x => (List.mem_cons.mp hx).elim (fun e => absurd (e ▸ h0x) h0) fun hx => lk2 x hx h0x⟩
        rcases kk x hx with h | h | ⟨s', h1, h2⟩ | ⟨q, h1, h2⟩
        · exact .inl h
        · exact .inr (.inl h)
        · exact .inr (.inr (.inl ⟨s', List.mem_cons_of_mem _ h1, h2⟩))
        · cases h1
          exact .inr (.inr (.inl ⟨s, List.mem_cons_self .., by rw [h2, ad.off s hs hn]⟩))
      · exact .full e' (by rw [List.length_cons]; omega)
      · exact .none_ e' (by rw [em]; exact hfr)
end Go.Proofs.YtcdpakjhjmchhaaGreatDoor.Bm
