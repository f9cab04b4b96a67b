/-
  THE INODE TABLE, plainly: each number has what was put there last.
-/
import Derived.Test.YtcdpakjhjmchhaaDoorInK
namespace Go.Proofs.YtcdpakjhjmchhaaDoor.Ino
open Go Go.Proofs Go.Proofs.YtcdpakjhjmchhaaDoor.Wx Go.Proofs.YtcdpakjhjmchhaaDoor.Hp Go.Proofs.YtcdpakjhjmchhaaDoor.W Go.Proofs.YtcdpakjhjmchhaaDoor.Ad Go.Proofs.YtcdpakjhjmchhaaDoor.Tm Go.Proofs.YtcdpakjhjmchhaaDoor.Bt Go.Proofs.YtcdpakjhjmchhaaDoor.Spc Go.Proofs.YtcdpakjhjmchhaaDoor.Re Go.Proofs.YtcdpakjhjmchhaaDoor.Av
open Go.Proofs.YtcdpakjhjmchhaaDoor.Hd (ints)
open Go.Proofs.YtcdpakjhjmchhaaDoor.In (z15 mayR encR decA ints_one ints_length ints_eq pairs15 cell15 Glo getR_length encR_length z15_row plainL decA_enc kindOk)

theorem getD_setL {α : Type} (l : List α) (i j : Nat) (b d : α) (h : i < l.length) : (l.set i b).getD j d = if j = i then b else l.getD j d := by
  rw [List.getD_eq_getElem?_getD, List.getD_eq_getElem?_getD]
  by_cases e : j = i
  · rw [if_pos e, e, List.getElem?_set_self h]; rfl
  · rw [if_neg e, List.getElem?_set_ne (fun x => e x.symm)]
def blkZ (n k : Nat) : Nat := (geoN n).inodes + k / 8
def recZ (n : Nat) (Z : Nat → Txt) (k : Nat) : List Int × Int := decA (((Z (blkZ n k)).drop (64 * (k % 8))).take 64)
theorem blkZ_rng {n k : Nat} (d : Dim n) (h : k < (geoN n).count) : (geoN n).inodes ≤ blkZ n k ∧ blkZ n k < (geoN n).data ∧ blkZ n k < n ∧ 98 ≤ blkZ n k := by
  have hd := d.data
  have e : (geoN n).count = 8 * (n / 64) := rfl
  have e2 : (geoN n).data = 98 + (n + 4095) / 4096 + n / 64 := rfl
  have e3 : (geoN n).inodes = 98 + (n + 4095) / 4096 := rfl
  unfold blkZ
  omega
theorem part64 {b z : Txt} {o q : Nat} (hz : z.length = 64) (hb : b.length = 512) (ho : o < 8) (hq : q < 8) : ((putU b (64 * o) z).drop (64 * q)).take 64 = if q = o then z else (b.drop (64 * q)).take 64 := by
  unfold putU
  have l1 : (b.take (64 * o)).length = 64 * o := by rw [List.length_take]; omega
  by_cases h : q = o
  · rw [if_pos h, h, List.append_assoc, List.drop_append_of_le_length (by omega), List.drop_of_length_le (by omega), List.nil_append, List.take_append_of_le_length (by omega), List.take_of_length_le (by omega)]
  · rw [if_neg h]
    rcases Nat.lt_or_ge q o with h1 | h1
    · rw [List.append_assoc, List.drop_append_of_le_length (by omega), List.take_append_of_le_length (by rw [List.length_drop]; omega), List.drop_take, List.take_take, Nat.min_eq_left (by omega)]
    · have l2 : (b.take (64 * o) ++ z).length = 64 * o + 64 := by rw [List.length_append]; omega
      rw [List.drop_append, List.drop_of_length_le (by omega), List.nil_append, List.drop_drop, l2, hz, show 64 * o + 64 + (64 * q - (64 * o + 64)) = 64 * q by omega]
/-- a table that has the records hv -/
structure Ib (n : Nat) (hv : List (List Int)) (Z : Nat → Txt) (T : TM) : Prop where
  a : Av n Z T
  hl : hv.length = (geoN n).count
  ok : ∀ R ∈ hv, R.length = 15 ∧ mayR R = true
  recs : ∀ k, 1 ≤ k → k < (geoN n).count → recZ n Z k = (hv.getD k z15, 0)
  sub : ∀ x ∈ ks T, ((geoN n).inodes : Int) ≤ x ∧ x < (geoN n).data
theorem Ib.get {n k : Nat} {hv : List (List Int)} {Z : Nat → Txt} {T : TM} (i : Ib n hv Z T) (d : Dim n) (h1 : 1 ≤ k) (h2 : k < (geoN n).count) : getM T (geoN n) k = (hv.getD k z15, 0) := by
  have r := blkZ_rng d h2
  have e : rblk (geoN n) (k : Int) = ((blkZ n k : Nat) : Int) := rfl
  unfold getM
  rw [if_neg (fun y => y ⟨by omega, by omega⟩), e, i.a.z _ r.2.2.1, if_neg (fun y => y rfl)]
  exact i.recs k h1 h2
theorem Ib.room {n : Nat} {hv : List (List Int)} {Z : Nat → Txt} {T : TM} (i : Ib n hv Z T) (hn : n ≤ 6000) : (ks T).length < 96 := by
  have := nodup_len (m := (List.range (n / 64)).map fun k => (((geoN n).inodes + k : Nat) : Int)) i.a.keys fun x hx => by
    have := i.sub x hx
    have e2 : (geoN n).data = (geoN n).inodes + n / 64 := rfl
    exact List.mem_map.mpr ⟨(x - (geoN n).inodes).toNat, List.mem_range.mpr (by omega), by omega⟩
  rw [List.length_map, List.length_range] at this
  omega
theorem Ib.put {n k : Nat} {hv : List (List Int)} {Z : Nat → Txt} {T : TM} {R : List Int} (i : Ib n hv Z T) (d : Dim n) (hn : n ≤ 6000) (h1 : 1 ≤ k) (h2 : k < (geoN n).count) (hR : R.length = 15) (hm : mayR R = true) :
    (putM T (geoN n) k R).2 = 0 ∧ ∃ Z', Ib n (hv.set k R) Z' (putM T (geoN n) k R).1 := by
  have r := blkZ_rng d h2
  have e : rblk (geoN n) (k : Int) = ((blkZ n k : Nat) : Int) := rfl
  have ep : putM T (geoN n) k R = T.write (blkZ n k : Nat) (putU (Z (blkZ n k)) (64 * (k % 8)) (encR R)) := by
    unfold putM
    rw [if_neg (fun y => y ⟨by omega, by omega⟩), if_neg (by rw [hm]; simp), e, i.a.z _ r.2.2.1, if_neg (fun y => y rfl)]
    rfl
  have le := encR_length hR
  have lz := i.a.len _ r.2.2.1
  have l5 : (putU (Z (blkZ n k)) (64 * (k % 8)) (encR R)).length = 512 := by rw [putU_length (by rw [le]; omega), lz]
  have h0 := i.a.room (i := blkZ n k) r.2.2.2 r.2.2.1 l5 (.inr (i.room hn))
  rw [ep]
  refine ⟨h0, _, i.a.write r.2.2.2 r.2.2.1 l5 h0, by rw [List.length_set]; exact i.hl, fun S hS => ?_, fun j j1 j2 => ?_, fun x hx => ?_⟩
  · rcases List.mem_or_eq_of_mem_set hS with h | rfl
    · exact i.ok S h
    · exact ⟨hR, hm⟩
  · have rj := blkZ_rng d j2
    rw [getD_setL _ _ _ _ _ (by rw [i.hl]; exact h2)]
    unfold recZ
    by_cases hb : blkZ n j = blkZ n k
    · rw [hb, up_at, part64 le lz (by omega) (by omega)]
      by_cases hjk : j = k
      · rw [if_pos (by rw [hjk]), if_pos hjk]; exact decA_enc hR hm
      · have : ¬ j % 8 = k % 8 := fun y => by unfold blkZ at hb; omega
        rw [if_neg this, if_neg hjk, ← hb]; exact i.recs j j1 j2
    · rw [up_ne _ _ hb, if_neg (fun y => hb (by rw [y]))]; exact i.recs j j1 j2
  · rcases (write_keys h0 x).mp hx with h | rfl
    · exact i.sub x h
    · omega
/-- so many of the first j are free -/
def cz (hv : List (List Int)) : Nat → Nat
  | 0 => 0
  | j + 1 => cz hv j + if hv.getD (j + 1) z15 = z15 then 1 else 0
theorem cz_le (hv : List (List Int)) : ∀ j, cz hv j ≤ j
  | 0 => Nat.le_refl _
  | j + 1 => by
    have := cz_le hv j
    show cz hv j + (if _ then 1 else 0) ≤ _
    split <;> omega
theorem cz_mono (hv : List (List Int)) (j : Nat) : ∀ d, cz hv j ≤ cz hv (j + d)
  | 0 => Nat.le_refl _
  | d + 1 => by
    have := cz_mono hv j d
    show _ ≤ cz hv (j + d) + (if _ then 1 else 0)
    omega
theorem Ib.freeI {n : Nat} {hv : List (List Int)} {Z : Nat → Txt} {T : TM} (i : Ib n hv Z T) (d : Dim n) : ∀ (k j : Nat) (m : Int), j + k + 1 = (geoN n).count → Ino.freeI T (geoN n) k ((j + 1 : Nat) : Int) m = (m + (cz hv (j + k) - cz hv j : Nat), 0)
  | 0, j, m, _ => by
    show (m, (0 : Int)) = _
    rw [Nat.add_zero, Nat.sub_self]
    show _ = (m + 0, (0 : Int))
    rw [Int.add_zero]
  | k + 1, j, m, h => by
    have eg := i.get d (k := j + 1) (by omega) (by omega)
    show (if (getM T (geoN n) ((j + 1 : Nat) : Int)).2 ≠ 0 then (0, (getM T (geoN n) ((j + 1 : Nat) : Int)).2) else Ino.freeI T (geoN n) k (((j + 1 : Nat) : Int) + 1) (if (getM T (geoN n) ((j + 1 : Nat) : Int)).1 = z15 then m + 1 else m)) = _
    rw [eg, if_neg (fun y => y rfl)]
    have ih := fun m' => Ib.freeI i d k (j + 1) m' (by omega)
    have ec : ((j + 1 : Nat) : Int) + 1 = ((j + 1 + 1 : Nat) : Int) := by omega
    rw [ec, ih]
    have e1 : cz hv (j + 1) = cz hv j + if hv.getD (j + 1) z15 = z15 then 1 else 0 := rfl
    have e2 : j + 1 + k = j + (k + 1) := by omega
    have mo := cz_mono hv (j + 1) k
    rw [e2] at mo ⊢
    by_cases hz : hv.getD (j + 1) z15 = z15
    · simp only [if_pos hz] at e1 ⊢
      refine Prod.ext ?_ rfl
      show m + 1 + ((cz hv (j + (k + 1)) - cz hv (j + 1) : Nat) : Int) = m + ((cz hv (j + (k + 1)) - cz hv j : Nat) : Int)
      omega
    · simp only [if_neg hz] at e1 ⊢
      refine Prod.ext ?_ rfl
      show m + ((cz hv (j + (k + 1)) - cz hv (j + 1) : Nat) : Int) = m + ((cz hv (j + (k + 1)) - cz hv j : Nat) : Int)
      omega
theorem Ib.free {n : Nat} {hv : List (List Int)} {Z : Nat → Txt} {T : TM} (i : Ib n hv Z T) (d : Dim n) : Ino.freeI T (geoN n) ((geoN n).count - 1) 1 0 = (((cz hv ((geoN n).count - 1) : Nat) : Int), 0) := by
  have hd := d.lo
  have e : (geoN n).count = 8 * (n / 64) := rfl
  have := i.freeI d ((geoN n).count - 1) 0 0 (by omega)
  rw [Nat.zero_add] at this
  have e1 : ((0 + 1 : Nat) : Int) = 1 := rfl
  rw [e1] at this
  rw [this]
  refine Prod.ext ?_ rfl
  show (0 : Int) + ((cz hv (0 + ((geoN n).count - 1)) - 0 : Nat) : Int) = _
  rw [Nat.zero_add, Nat.sub_zero, Int.zero_add]
/-- the lowest free number above j; 0: none -/
def Low (hv : List (List Int)) (c j low : Nat) : Prop := (low = 0 ∧ ∀ i, j < i → i < c → hv.getD i z15 ≠ z15) ∨ (j < low ∧ low < c ∧ hv.getD low z15 = z15 ∧ ∀ i, j < i → i < low → hv.getD i z15 ≠ z15)
theorem Low.hit {hv : List (List Int)} {c j : Nat} (hj : j + 1 < c) (hz : hv.getD (j + 1) z15 = z15) : Low hv c j (j + 1) := .inr ⟨by omega, hj, hz, fun i h1 h2 => by omega⟩
theorem Low.miss {hv : List (List Int)} {c j low : Nat} (l : Low hv c (j + 1) low) (hz : hv.getD (j + 1) z15 ≠ z15) : Low hv c j low := by
  rcases l with ⟨e, h⟩ | ⟨h1, h2, h3, h⟩
  · refine .inl ⟨e, fun i h1 h2 => ?_⟩
    by_cases hi : i = j + 1
    · rw [hi]; exact hz
    · exact h i (by omega) h2
  · refine .inr ⟨by omega, h2, h3, fun i h4 h5 => ?_⟩
    by_cases hi : i = j + 1
    · rw [hi]; exact hz
    · exact h i (by omega) h5
theorem Ib.goI {n : Nat} {hv : List (List Int)} {Z : Nat → Txt} {T : TM} {R : List Int} (i : Ib n hv Z T) (d : Dim n) (hn : n ≤ 6000) (hR : R.length = 15) (hm : mayR R = true) {low : Nat} : ∀ (k j : Nat), j + k + 1 = (geoN n).count → Low hv (geoN n).count j low →
    Ino.goI T (geoN n) R k ((j + 1 : Nat) : Int) = if low = 0 then (T, 0, 90) else ((putM T (geoN n) low R).1, (low : Int), 0)
  | 0, j, h, l => by
    rcases l with ⟨e, _⟩ | ⟨h1, h2, _⟩
    · rw [if_pos e]; rfl
    · omega
  | k + 1, j, h, l => by
    have eg := i.get d (k := j + 1) (by omega) (by omega)
    show (if (getM T (geoN n) ((j + 1 : Nat) : Int)).2 ≠ 0 then (T, 0, (getM T (geoN n) ((j + 1 : Nat) : Int)).2) else if (getM T (geoN n) ((j + 1 : Nat) : Int)).1 = z15 then
      if (putM T (geoN n) ((j + 1 : Nat) : Int) R).2 ≠ 0 then ((putM T (geoN n) ((j + 1 : Nat) : Int) R).1, 0, (putM T (geoN n) ((j + 1 : Nat) : Int) R).2) else ((putM T (geoN n) ((j + 1 : Nat) : Int) R).1, ((j + 1 : Nat) : Int), 0)
      else Ino.goI T (geoN n) R k (((j + 1 : Nat) : Int) + 1)) = _
    rw [eg, if_neg (fun y => y rfl)]
    by_cases hz : hv.getD (j + 1) z15 = z15
    · rw [if_pos hz, (i.put d hn (k := j + 1) (by omega) (by omega) hR hm).1, if_neg (fun y => y rfl)]
      have el : low = j + 1 := by
        rcases l with ⟨_, h⟩ | ⟨h1, h2, h3, h⟩
        · exact absurd hz (h (j + 1) (by omega) (by omega))
        · rcases Nat.lt_or_ge (j + 1) low with h4 | h4
          · exact absurd hz (h (j + 1) (by omega) h4)
          · omega
      rw [if_neg (by omega), el]
    · rw [if_neg hz]
      have ec : ((j + 1 : Nat) : Int) + 1 = ((j + 1 + 1 : Nat) : Int) := by omega
      rw [ec]
      refine Ib.goI i d hn hR hm k (j + 1) (by omega) ?_
      rcases l with ⟨e, h⟩ | ⟨h1, h2, h3, h⟩
      · exact .inl ⟨e, fun i h1 h2 => h i (by omega) h2⟩
      · refine .inr ⟨?_, h2, h3, fun i h4 h5 => h i (by omega) h5⟩
        by_cases e : low = j + 1
        · rw [e] at h3; exact absurd h3 hz
        · omega
theorem Ib.take {n : Nat} {hv : List (List Int)} {Z : Nat → Txt} {T : TM} {R : List Int} (i : Ib n hv Z T) (d : Dim n) (hn : n ≤ 6000) (hR : R.length = 15) (hm : mayR R = true) (hk : R.getD 0 0 ≠ 0) {low : Nat} (l : Low hv (geoN n).count 0 low) :
    takeI T (geoN n) R = if low = 0 then (T, 0, 90) else ((putM T (geoN n) low R).1, (low : Int), 0) := by
  have hd := d.lo
  have e : (geoN n).count = 8 * (n / 64) := rfl
  unfold takeI
  rw [if_neg (by rintro (y | y); rw [hm] at y; cases y; exact hk y)]
  exact i.goI d hn hR hm ((geoN n).count - 1) 0 (by omega) l
theorem Ib.fill_cz {hv : List (List Int)} {low : Nat} {R : List Int} (h : low < hv.length) (h0 : 0 < low) (hz : hv.getD low z15 = z15) (hR : R ≠ z15) : ∀ j, cz (hv.set low R) j + (if low ≤ j then 1 else 0) = cz hv j
  | 0 => by rw [if_neg (by omega)]; rfl
  | j + 1 => by
    have ih := Ib.fill_cz h h0 hz hR j
    show cz (hv.set low R) j + (if (hv.set low R).getD (j + 1) z15 = z15 then 1 else 0) + _ = cz hv j + (if hv.getD (j + 1) z15 = z15 then 1 else 0)
    rw [getD_setL _ _ _ _ _ h]
    by_cases e : j + 1 = low
    · rw [if_pos e, if_neg hR, if_pos (show low ≤ j + 1 by omega), e, if_pos hz]
      rw [if_neg (by omega)] at ih
      omega
    · rw [if_neg e]
      by_cases e2 : low ≤ j
      · rw [if_pos e2] at ih
        rw [if_pos (show low ≤ j + 1 by omega)]; omega
      · rw [if_neg e2] at ih
        rw [if_neg (show ¬ low ≤ j + 1 by omega)]; omega
theorem kind0 {R : List Int} (hm : mayR R = true) : R.getD 0 0 = 0 ↔ R = z15 := by
  constructor
  · intro h
    unfold mayR at hm
    rw [Bool.and_eq_true] at hm
    have := hm.2
    rw [In.kindOk, if_pos h] at this
    exact of_decide_eq_true this
  · rintro rfl; rfl
end Go.Proofs.YtcdpakjhjmchhaaDoor.Ino
