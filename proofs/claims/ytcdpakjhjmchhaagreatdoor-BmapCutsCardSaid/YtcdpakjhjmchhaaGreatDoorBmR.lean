import Derived.Test.YtcdpakjhjmchhaaGreatDoorBmI
import Derived.Test.YtcdpakjhjmchhaaGreatDoorBmK
/-
  WHAT All TELLS, plainly.
-/
namespace Go.Proofs.YtcdpakjhjmchhaaGreatDoor.Bm
open Go Go.Proofs Go.Proofs.YtcdpakjhjmchhaaGreatDoor.Wx Go.Proofs.YtcdpakjhjmchhaaGreatDoor.Hp Go.Proofs.YtcdpakjhjmchhaaGreatDoor.W Go.Proofs.YtcdpakjhjmchhaaGreatDoor.Ad Go.Proofs.YtcdpakjhjmchhaaGreatDoor.Tm Go.Proofs.YtcdpakjhjmchhaaGreatDoor.Bt Go.Proofs.YtcdpakjhjmchhaaGreatDoor.Spc Go.Proofs.YtcdpakjhjmchhaaGreatDoor.Re Go.Proofs.YtcdpakjhjmchhaaGreatDoor.Av

/-- the pairs of m indices from k on -/
def rowN (f : Nat → Nat) : Nat → Nat → List (Int × Int)
  | _, 0 => []
  | k, m + 1 => (if f k = 0 then [] else [((k : Int), (f k : Int))]) ++ rowN f (k + 1) m
def tabN (f : Nat → Nat) : Nat → Nat → List Int
  | _, 0 => []
  | k, m + 1 => (if f k = 0 then [] else [(f k : Int)]) ++ tabN f (k + 1) m
theorem rowN_zero {f : Nat → Nat} : ∀ (m k : Nat), (∀ j, j < m → f (k + j) = 0) → rowN f k m = []
  | 0, _, _ => rfl
  | m + 1, k, h => by
    have h0 := h 0 (by omega)
    rw [Nat.add_zero] at h0
    show (if f k = 0 then [] else _) ++ rowN f (k + 1) m = []
    rw [if_pos h0, rowN_zero m (k + 1) fun j hj => by have := h (j + 1) (by omega); rwa [show k + (j + 1) = k + 1 + j by omega] at this]; rfl
theorem rowN_add {f : Nat → Nat} : ∀ (a k b : Nat), rowN f k (a + b) = rowN f k a ++ rowN f (k + a) b
  | 0, k, b => by rw [Nat.zero_add]; rfl
  | a + 1, k, b => by
    rw [show a + 1 + b = (a + b) + 1 by omega]
    show (if f k = 0 then [] else _) ++ rowN f (k + 1) (a + b) = ((if f k = 0 then [] else _) ++ rowN f (k + 1) a) ++ _
    rw [rowN_add a (k + 1) b, List.append_assoc, show k + 1 + a = k + (a + 1) by omega]
theorem own_go {g : G} {f : Nat → Nat} {dO : DoM} {b : Nat} (hd : ∀ S i v, dO S i v = ownA g S ((b + i : Nat) : Int) v) : ∀ (vs : List Int) (i : Nat) (S : AllS), (∀ j (hj : j < vs.length), vs[j] = (f (b + i + j) : Int)) → (∀ j, j < vs.length → f (b + i + j) ≠ 0 → lookM g (f (b + i + j) : Int) = 0) →
    eachGo dO vs i S = (⟨S.L ++ rowN f (b + i) vs.length, S.M⟩, 0)
  | [], i, S, _, _ => by show (S, (0 : Int)) = (⟨S.L ++ [], S.M⟩, 0); rw [List.append_nil]
  | v :: r, i, S, h1, h2 => by
    have hv : v = (f (b + i) : Int) := h1 0 (Nat.succ_pos _)
    have ih := fun S' => own_go hd r (i + 1) S' (fun j hj => by
      have := h1 (j + 1) (Nat.succ_lt_succ hj)
      rw [show b + i + (j + 1) = b + (i + 1) + j by omega] at this
      exact this) (fun j hj hne => by
      have := h2 (j + 1) (Nat.succ_lt_succ hj)
      rw [show b + i + (j + 1) = b + (i + 1) + j by omega] at this
      exact this hne)
    rw [eachGo_cons, hd, List.length_cons]
    show _ = (AllS.mk (S.L ++ ((if f (b + i) = 0 then [] else _) ++ rowN f (b + i + 1) r.length)) S.M, (0 : Int))
    by_cases h0 : f (b + i) = 0
    · have e : ownA g S ((b + i : Nat) : Int) v = (S, 0) := by unfold ownA; rw [if_pos (by omega)]
      rw [e, if_neg (fun z => z rfl), ih S, if_pos h0]; rfl
    · have l0 := h2 0 (Nat.succ_pos _) h0
      have l0 : lookM g (f (b + i) : Int) = 0 := l0
      have e : ownA g S ((b + i : Nat) : Int) v = (⟨S.L ++ [(((b + i : Nat) : Int), v)], S.M⟩, 0) := by unfold ownA; rw [if_neg (by omega), hv, l0]
      rw [e, if_neg (fun z => z rfl), ih, if_neg h0, hv]
      show (AllS.mk (S.L ++ [(((b + i : Nat) : Int), (f (b + i) : Int))] ++ rowN f (b + (i + 1)) r.length) S.M, (0 : Int)) = _
      rw [List.append_assoc]; rfl
theorem each_ok {n : Nat} {Z : Nat → Txt} {R : List Int} {T : TM} {dO : DoM} {b q : Nat} {S : AllS} (a : Av n Z T) (w : Wf n Z R) (hd : ∀ S i v, dO S i v = ownA (geoN n) S ((b + i : Nat) : Int) v) (hq : q < nS) (hb : ∀ j, j < 128 → b + j < nS ∧ par (b + j) = some (q, j)) :
    eachM T (geoN n) dO (num Z R q : Nat) S = (⟨S.L ++ rowN (num Z R) b 128, S.M ++ tabN (num Z R) q 1⟩, 0) := by
  have ch : ∀ j, j < 128 → num Z R (b + j) = sub Z (num Z R q) j := fun j hj => num_some (hb j hj).2 (hb j hj).1
  unfold eachM
  show _ = (AllS.mk _ (S.M ++ ((if num Z R q = 0 then [] else _) ++ [])), (0 : Int))
  by_cases h0 : num Z R q = 0
  · rw [if_pos (by omega), if_pos h0, rowN_zero 128 b fun j hj => by rw [ch j hj, h0]; rfl, List.append_nil, List.append_nil, List.append_nil]
  · have ru := w.rng q hq h0
    rw [if_neg (by omega), if_neg (fun z => z (look_ok ru.1 ru.2.1)), a.z _ ru.2.1, if_neg (fun z => z rfl), if_neg h0]
    have lk : ∀ j, j < (numsL (Z (num Z R q))).length → num Z R (b + 0 + j) ≠ 0 → lookM (geoN n) (num Z R (b + 0 + j) : Int) = 0 := fun j hj hne => by
      rw [numsL_len] at hj
      rw [Nat.add_zero] at hne ⊢
      have r2 := w.rng _ (hb j hj).1 hne
      exact look_ok r2.1 r2.2.1
    have g := own_go (f := num Z R) hd (numsL (Z (num Z R q))) 0 ⟨S.L, S.M ++ [((num Z R q : Nat) : Int)]⟩ (fun j hj => by
      rw [numsL_get hj]
      rw [numsL_len] at hj
      rw [Nat.add_zero, ch j hj]
      unfold sub
      rw [if_neg h0]) lk
    rw [numsL_len, Nat.add_zero] at g
    rw [g, List.append_nil]
theorem two_go {n : Nat} {Z : Nat → Txt} {R : List Int} {T : TM} (a : Av n Z T) (w : Wf n Z R) : ∀ (vs : List Int) (i : Nat) (S : AllS), i + vs.length ≤ 128 → (∀ j (hj : j < vs.length), vs[j] = (num Z R (16524 + i + j) : Int)) →
    eachGo (twoD T (geoN n)) vs i S = (⟨S.L ++ rowN (num Z R) (138 + 128 * i) (128 * vs.length), S.M ++ tabN (num Z R) (16524 + i) vs.length⟩, 0)
  | [], i, S, _, _ => by show (S, (0 : Int)) = (AllS.mk (S.L ++ []) (S.M ++ []), 0); rw [List.append_nil, List.append_nil]
  | v :: r, i, S, hl, h1 => by
    rw [List.length_cons] at hl
    have hv : v = (num Z R (16524 + i) : Int) := h1 0 (Nat.succ_pos _)
    have ih := fun S' => two_go a w r (i + 1) S' (by omega) (fun j hj => by
      have := h1 (j + 1) (Nat.succ_lt_succ hj)
      rw [show 16524 + i + (j + 1) = 16524 + (i + 1) + j by omega] at this
      exact this)
    have ed : twoD T (geoN n) S i v = (⟨S.L ++ rowN (num Z R) (138 + 128 * i) 128, S.M ++ tabN (num Z R) (16524 + i) 1⟩, 0) := by
      show eachM T (geoN n) (inD (geoN n) i) v S = _
      rw [hv]
      refine each_ok a w (fun S j v => ?_) (by unfold nS; omega) fun j hj => ⟨by unfold nS; omega, ?_⟩
      · show ownA (geoN n) S (138 + (i : Int) * 128 + j) v = _
        rw [show 138 + (i : Int) * 128 + j = ((138 + 128 * i + j : Nat) : Int) by omega]
      · unfold par
        rw [if_neg (by omega), if_neg (by omega), if_pos (by omega), show 16524 + (138 + 128 * i + j - 138) / 128 = 16524 + i by omega, show (138 + 128 * i + j - 138) % 128 = j by omega]
    rw [eachGo_cons, ed, if_neg (fun z => z rfl), ih, List.length_cons, show 128 * (r.length + 1) = 128 + 128 * r.length by omega, rowN_add, show 138 + 128 * i + 128 = 138 + 128 * (i + 1) by omega]
    show (AllS.mk ((S.L ++ rowN (num Z R) (138 + 128 * i) 128) ++ _) ((S.M ++ ((if num Z R (16524 + i) = 0 then [] else _) ++ [])) ++ _), (0 : Int)) = (AllS.mk (S.L ++ (_ ++ _)) (S.M ++ ((if num Z R (16524 + i) = 0 then [] else _) ++ _)), (0 : Int))
    rw [List.append_assoc, List.append_assoc, List.append_nil]; rfl
/-- All tells the numbers of all indices that have one, rising, and the tables -/
theorem allS_ok {n : Nat} {Z : Nat → Txt} {R : List Int} {T : TM} (a : Av n Z T) (w : Wf n Z R) : allM T (geoN n) R = (rowN (num Z R) 0 16522, tabN (num Z R) 16522 1 ++ (tabN (num Z R) 16523 1 ++ if num Z R 16523 = 0 then [] else tabN (num Z R) 16524 128), 0) := by
  have rl := w.rl
  have dirs : eachGo (dirD (geoN n)) ((R.drop 3).take 10) 0 ⟨[], []⟩ = (⟨rowN (num Z R) 0 10, []⟩, 0) := by
    have hl : ((R.drop 3).take 10).length = 10 := by rw [List.length_take, List.length_drop, rl]; rfl
    have g := own_go (g := geoN n) (f := num Z R) (dO := dirD (geoN n)) (b := 0) (fun S i v => by show ownA _ S (i : Int) v = _; rw [Nat.zero_add]) ((R.drop 3).take 10) 0 ⟨[], []⟩ (fun j hj => by
      have h0 : par (0 + 0 + j) = none := by unfold par; rw [if_pos (by omega)]
      rw [← root_num w (by unfold nS; omega) h0]
      unfold root
      rw [if_pos (by omega), List.getElem_take, List.getElem_drop, List.getD_eq_getElem?_getD, List.getElem?_eq_getElem (by omega)]
      show _ = R[3 + (0 + 0 + j)]
      congr 1; omega) (fun j hj hne => by
      have r2 := w.rng _ (by unfold nS; omega) hne
      exact look_ok r2.1 r2.2.1)
    rw [hl] at g
    exact g
  have r13 : R.getD 13 0 = (num Z R 16522 : Nat) := by
    have := root_num w (s := 16522) (by decide) (by decide)
    unfold root at this
    rw [if_neg (by decide), if_pos rfl] at this; exact this
  have r14 : R.getD 14 0 = (num Z R 16523 : Nat) := by
    have := root_num w (s := 16523) (by decide) (by decide)
    unfold root at this
    rw [if_neg (by decide), if_neg (by decide)] at this; exact this
  have one : ∀ S, eachM T (geoN n) (oneD (geoN n)) (R.getD 13 0) S = (⟨S.L ++ rowN (num Z R) 10 128, S.M ++ tabN (num Z R) 16522 1⟩, 0) := fun S => by
    rw [r13]
    refine each_ok a w (fun S j v => ?_) (by decide) fun j hj => ⟨by unfold nS; omega, ?_⟩
    · show ownA (geoN n) S (10 + (j : Int)) v = _
      rw [show 10 + (j : Int) = ((10 + j : Nat) : Int) by omega]
    · unfold par
      rw [if_neg (by omega), if_pos (by omega), show 10 + j - 10 = j by omega]
  have two : ∀ S, eachM T (geoN n) (twoD T (geoN n)) (R.getD 14 0) S = (⟨S.L ++ rowN (num Z R) 138 16384, S.M ++ (tabN (num Z R) 16523 1 ++ if num Z R 16523 = 0 then [] else tabN (num Z R) 16524 128)⟩, 0) := fun S => by
    rw [r14]
    have pt : ∀ p, p < 128 → num Z R (16524 + p) = sub Z (num Z R 16523) p := fun p hp => num_some (par_table hp) (by unfold nS; omega)
    unfold eachM
    show _ = (AllS.mk _ (S.M ++ (((if num Z R 16523 = 0 then [] else _) ++ []) ++ _)), (0 : Int))
    by_cases h0 : num Z R 16523 = 0
    · rw [if_pos (by omega), if_pos h0, if_pos h0, rowN_zero 16384 138 fun j hj => ?_]
      · simp only [List.append_nil]
      · have e : par (138 + j) = some (16524 + j / 128, j % 128) := by
          unfold par
          rw [if_neg (by omega), if_neg (by omega), if_pos (by omega), Nat.add_sub_cancel_left]
        rw [num_some e (by unfold nS; omega), pt (j / 128) (by omega), h0]; rfl
    · have ru := w.rng 16523 (by decide) h0
      rw [if_neg (by omega), if_neg (fun z => z (look_ok ru.1 ru.2.1)), a.z _ ru.2.1, if_neg (fun z => z rfl), if_neg h0, if_neg h0]
      have g := two_go a w (numsL (Z (num Z R 16523))) 0 ⟨S.L, S.M ++ [((num Z R 16523 : Nat) : Int)]⟩ (by rw [numsL_len]; decide) (fun j hj => by
        rw [numsL_get hj]
        rw [numsL_len] at hj
        rw [Nat.add_zero, pt j hj]
        unfold sub
        rw [if_neg h0])
      rw [numsL_len] at g
      rw [g, List.append_nil, ← List.append_assoc]
  have sum : rowN (num Z R) 0 16522 = (rowN (num Z R) 0 10 ++ rowN (num Z R) 10 128) ++ rowN (num Z R) 138 16384 := by
    rw [show 16522 = 10 + (128 + 16384) by rfl, rowN_add, rowN_add, ← List.append_assoc]
  have es : allS T (geoN n) R = (⟨rowN (num Z R) 0 16522, tabN (num Z R) 16522 1 ++ (tabN (num Z R) 16523 1 ++ if num Z R 16523 = 0 then [] else tabN (num Z R) 16524 128)⟩, 0) := by
    unfold allS
    rw [dirs, if_neg (fun z => z rfl), one, if_neg (fun z => z rfl), two, sum]; rfl
  unfold allM
  rw [es, if_neg (fun z => z rfl)]
end Go.Proofs.YtcdpakjhjmchhaaGreatDoor.Bm
/-
  bolelaw10: a case's transaction, plainly.
-/
namespace Go.Proofs.YtcdpakjhjmchhaaGreatDoor.Bm
open Go Go.Proofs Go.Proofs.YtcdpakjhjmchhaaGreatDoor.Wx Go.Proofs.YtcdpakjhjmchhaaGreatDoor.Hp Go.Proofs.YtcdpakjhjmchhaaGreatDoor.W Go.Proofs.YtcdpakjhjmchhaaGreatDoor.Ad Go.Proofs.YtcdpakjhjmchhaaGreatDoor.Tm Go.Proofs.YtcdpakjhjmchhaaGreatDoor.Bt Go.Proofs.YtcdpakjhjmchhaaGreatDoor.Spc Go.Proofs.YtcdpakjhjmchhaaGreatDoor.Re Go.Proofs.YtcdpakjhjmchhaaGreatDoor.Av

def Z0 (L : Txt) : Nat → Txt := fun k => (L.drop (k * 512)).take 512
theorem fresh_av {n : Nat} {L : Txt} (hL : L.length = 512 * n) : Av n (Z0 L) ⟨fresh (chunks L), [], [], false⟩ := by
  have hn : (chunks L).length = n := by rw [chunks_length, hL]; omega
  refine ⟨rfl, hn, fun k hk => ?_, fun k hk => by unfold Z0; rw [List.length_take, List.length_drop, hL]; omega, List.nodup_nil, fun x hx => (by cases hx)⟩
  have hN : TM.N ⟨fresh (chunks L), [], [], false⟩ = n := hn
  rw [TM.read_live rfl, hN, if_neg (by omega), TM.get_none rfl, if_neg (by intro y; cases y)]
  have : readAt (fresh (chunks L)) ((k : Nat) : Int).toNat = Z0 L k := by
    show (chunks L).getD k [] = _
    rw [List.getD_eq_getElem?_getD, List.getElem?_eq_getElem (by omega), Option.getD_some, chunks_get]; rfl
  rw [this]
theorem bitAt_chunk (L : Txt) (k t : Nat) (ht : t < 4096) : bitAt (Z0 L k) t = bitAt L (4096 * k + t) := by
  unfold bitAt Z0
  rw [List.getD_eq_getElem?_getD, List.getElem?_take, if_pos (by omega), List.getElem?_drop, ← List.getD_eq_getElem?_getD, show k * 512 + t / 8 = (4096 * k + t) / 8 by omega, show t % 8 = (4096 * k + t) % 8 by omega]
/-- which blocks a case's bitmap says are taken -/
theorem Im.bit {n : Nat} {U : Nat → Bool} {L : Txt} (a : Im n U L) (hn : 128 ≤ n ∧ n < 4428) {j : Nat} (hj : j < n) : Av.bit (Z0 L) j = U j := by
  have hino : (geoN n).inodes = 98 + (n + 4095) / 4096 := rfl
  rw [← a.bits j (by omega)]
  unfold Av.bit
  rw [bitAt_chunk _ _ _ (Nat.mod_lt _ (by decide))]
  congr 1; omega
/-- a record without a number -/
theorem num_nil {Z : Nat → Txt} {R : List Int} (h : ∀ i, 3 ≤ i → i < 15 → R.getD i 0 = 0) : ∀ s, s < nS → num Z R s = 0 := by
  refine slots (fun s hs e => ?_) fun s q p hs e ih => ?_
  · rw [num_none e]
    have b := par_none e
    have : root R s = 0 := by
      unfold root
      split
      · exact h _ (by omega) (by omega)
      · split
        · exact h _ (by omega) (by omega)
        · exact h _ (by omega) (by omega)
    rw [this]; rfl
  · rw [num_some e hs, ih]; rfl
theorem wf_nil {n : Nat} {Z : Nat → Txt} {R : List Int} (hl : R.length = 15) (h : ∀ i, 3 ≤ i → i < 15 → R.getD i 0 = 0) : Wf n Z R :=
  ⟨hl, fun i h1 h2 => by rw [h i h1 h2]; exact Int.le_refl _, fun s hs h0 => absurd (num_nil h s hs) h0, fun s s' hs _ h0 _ => absurd (num_nil h s hs) h0⟩
/-- the pairs of a row -/
theorem mem_rowN {f : Nat → Nat} {x : Int × Int} : ∀ (m k : Nat), x ∈ rowN f k m ↔ ∃ j, k ≤ j ∧ j < k + m ∧ f j ≠ 0 ∧ x = ((j : Int), (f j : Int))
  | 0, k => by
    constructor
    · intro h; cases h
    · rintro ⟨j, h1, h2, _⟩; omega
  | m + 1, k => by
    show x ∈ (if f k = 0 then [] else [((k : Int), (f k : Int))]) ++ rowN f (k + 1) m ↔ _
    rw [List.mem_append, mem_rowN m (k + 1)]
    constructor
    · rintro (h | ⟨j, h1, h2, h3, h4⟩)
      · split at h
        · cases h
        · rename_i h0
          exact ⟨k, Nat.le_refl _, by omega, h0, List.mem_singleton.mp h⟩
      · exact ⟨j, by omega, by omega, h3, h4⟩
    · rintro ⟨j, h1, h2, h3, h4⟩
      by_cases e : j = k
      · subst e
        rw [if_neg h3]; exact .inl (List.mem_singleton.mpr h4)
      · exact .inr ⟨j, by omega, by omega, h3, h4⟩
theorem rowN_lt {f : Nat → Nat} : ∀ (m k : Nat), (rowN f k m).Pairwise fun x y => x.1 < y.1
  | 0, _ => List.Pairwise.nil
  | m + 1, k => by
    show ((if f k = 0 then [] else [((k : Int), (f k : Int))]) ++ rowN f (k + 1) m).Pairwise _
    rw [List.pairwise_append]
    refine ⟨?_, rowN_lt m (k + 1), fun x hx y hy => ?_⟩
    · split
      · exact List.Pairwise.nil
      · exact List.pairwise_singleton _ _
    · obtain ⟨j, h1, _, _, rfl⟩ := (mem_rowN m (k + 1)).mp hy
      split at hx
      · cases hx
      · rw [List.mem_singleton.mp hx]; show (k : Int) < (j : Int); omega
end Go.Proofs.YtcdpakjhjmchhaaGreatDoor.Bm
/-
  WHICH BLOCKS A FILE HAS, plainly: Cut, slot by slot.
-/
namespace Go.Proofs.YtcdpakjhjmchhaaGreatDoor.Bm
open Go Go.Proofs Go.Proofs.YtcdpakjhjmchhaaGreatDoor.Wx Go.Proofs.YtcdpakjhjmchhaaGreatDoor.Hp Go.Proofs.YtcdpakjhjmchhaaGreatDoor.W Go.Proofs.YtcdpakjhjmchhaaGreatDoor.Ad Go.Proofs.YtcdpakjhjmchhaaGreatDoor.Tm Go.Proofs.YtcdpakjhjmchhaaGreatDoor.Bt Go.Proofs.YtcdpakjhjmchhaaGreatDoor.Spc Go.Proofs.YtcdpakjhjmchhaaGreatDoor.Re Go.Proofs.YtcdpakjhjmchhaaGreatDoor.Av

/-! slots below a table -/
def loS (q : Nat) : Nat := if q = 16522 then 10 else if q = 16523 then 138 else 138 + 128 * (q - 16524)
def hiS (q : Nat) : Nat := if q = 16522 then 138 else if q = 16523 then 16522 else 138 + 128 * (q - 16524) + 128
def ch (q p : Nat) : Nat := if q = 16522 then 10 + p else if q = 16523 then 16524 + p else 138 + 128 * (q - 16524) + p
theorem lo_tab (p : Nat) : loS (16524 + p) = 138 + 128 * p := by unfold loS; rw [if_neg (by omega), if_neg (by omega), Nat.add_sub_cancel_left]
theorem hi_tab (p : Nat) : hiS (16524 + p) = 138 + 128 * p + 128 := by unfold hiS; rw [if_neg (by omega), if_neg (by omega), Nat.add_sub_cancel_left]
theorem ch_tab (r p : Nat) : ch (16524 + r) p = 138 + 128 * r + p := by unfold ch; rw [if_neg (by omega), if_neg (by omega), Nat.add_sub_cancel_left]
theorem ch_one (p : Nat) : ch 16522 p = 10 + p := rfl
theorem ch_two (p : Nat) : ch 16523 p = 16524 + p := rfl
/-- the three kinds of tables -/
theorem tab_cases {q : Nat} (h1 : 16522 ≤ q) (h2 : q < nS) : q = 16522 ∨ q = 16523 ∨ ∃ r, r < 128 ∧ q = 16524 + r := by
  unfold nS at h2
  by_cases a : q = 16522
  · exact .inl a
  · by_cases b : q = 16523
    · exact .inr (.inl b)
    · exact .inr (.inr ⟨q - 16524, by omega, by omega⟩)
theorem ch_par {q p : Nat} (h1 : 16522 ≤ q) (h2 : q < nS) (hp : p < 128) : par (ch q p) = some (q, p) ∧ ch q p < nS := by
  rcases tab_cases h1 h2 with rfl | rfl | ⟨r, hr, rfl⟩
  · rw [ch_one]
    refine ⟨?_, by unfold nS; omega⟩
    unfold par
    rw [if_neg (by omega), if_pos (by omega), Nat.add_sub_cancel_left]
  · rw [ch_two]
    exact ⟨par_table hp, by unfold nS; omega⟩
  · rw [ch_tab]
    refine ⟨?_, by unfold nS; omega⟩
    unfold par
    rw [if_neg (by omega), if_neg (by omega), if_pos (by omega), show (138 + 128 * r + p - 138) / 128 = r by omega, show (138 + 128 * r + p - 138) % 128 = p by omega]
theorem par_ch {s q p : Nat} (h : par s = some (q, p)) (hs : s < nS) : ch q p = s ∧ p < 128 ∧ 16522 ≤ q ∧ q < nS := by
  have a := par_up h hs
  have b := par_ne h hs
  refine ⟨?_, a.1, b.2.2, b.2.1⟩
  rcases a.2 with ⟨rfl, e⟩ | ⟨rfl, e⟩ | ⟨h1, h2, e⟩
  · rw [ch_one, e]
  · rw [ch_two, e]
  · rcases tab_cases b.2.2 b.2.1 with rfl | rfl | ⟨r, _, rfl⟩
    · omega
    · omega
    · rw [ch_tab]; omega
theorem ch_num {Z : Nat → Txt} {R : List Int} {q p : Nat} (h1 : 16522 ≤ q) (h2 : q < nS) (hp : p < 128) : num Z R (ch q p) = sub Z (num Z R q) p := by
  obtain ⟨a, b⟩ := ch_par h1 h2 hp
  exact num_some a b
theorem ch_num' {Z : Nat → Txt} {R : List Int} {q p : Nat} (h1 : 16522 ≤ q) (h2 : q < nS) (hp : p < 128) (h0 : num Z R q ≠ 0) : num Z R (ch q p) = num4 (Z (num Z R q)) p := by
  rw [ch_num h1 h2 hp]; unfold sub; rw [if_neg h0]
/-- slot s is q or below it -/
def Sub (q s : Nat) : Prop := s = q ∨ (16522 ≤ q ∧ loS q ≤ s ∧ s < hiS q) ∨ (q = 16523 ∧ 16524 ≤ s ∧ s < nS)
theorem sub_leaf {c s : Nat} (h : c < 16522) : Sub c s ↔ s = c := by unfold Sub; omega
theorem sub_one {s : Nat} : Sub 16522 s ↔ s = 16522 ∨ (10 ≤ s ∧ s < 138) := by
  have e1 : loS 16522 = 10 := rfl
  have e2 : hiS 16522 = 138 := rfl
  unfold Sub; rw [e1, e2]; omega
theorem sub_two {s : Nat} : Sub 16523 s ↔ s = 16523 ∨ (138 ≤ s ∧ s < 16522) ∨ (16524 ≤ s ∧ s < nS) := by
  have e1 : loS 16523 = 138 := rfl
  have e2 : hiS 16523 = 16522 := rfl
  unfold Sub; rw [e1, e2]; omega
theorem sub_tab {r s : Nat} : Sub (16524 + r) s ↔ s = 16524 + r ∨ (138 + 128 * r ≤ s ∧ s < 138 + 128 * r + 128) := by
  unfold Sub; rw [lo_tab, hi_tab]; omega
theorem sub_split {q s : Nat} (h1 : 16522 ≤ q) (h2 : q < nS) : Sub q s ↔ s = q ∨ ∃ j, j < 128 ∧ Sub (ch q j) s := by
  rcases tab_cases h1 h2 with rfl | rfl | ⟨r, hr, rfl⟩
  · rw [sub_one]
    constructor
    · rintro (h | h)
      · exact .inl h
      · exact .inr ⟨s - 10, by omega, by rw [ch_one, sub_leaf (by omega)]; omega⟩
    · rintro (h | ⟨j, hj, h⟩)
      · exact .inl h
      · rw [ch_one, sub_leaf (by omega)] at h; omega
  · rw [sub_two]
    constructor
    · rintro (h | h | h)
      · exact .inl h
      · exact .inr ⟨(s - 138) / 128, by omega, by rw [ch_two, sub_tab]; omega⟩
      · exact .inr ⟨s - 16524, by unfold nS at h; omega, by rw [ch_two, sub_tab]; omega⟩
    · rintro (h | ⟨j, hj, h⟩)
      · exact .inl h
      · rw [ch_two, sub_tab] at h; unfold nS; omega
  · rw [sub_tab]
    constructor
    · rintro (h | h)
      · exact .inl h
      · exact .inr ⟨s - (138 + 128 * r), by omega, by rw [ch_tab, sub_leaf (by omega)]; omega⟩
    · rintro (h | ⟨j, hj, h⟩)
      · exact .inl h
      · rw [ch_tab, sub_leaf (by omega)] at h; omega
theorem sub_inj {q i j s : Nat} (h1 : 16522 ≤ q) (h2 : q < nS) (hi : i < 128) (hj : j < 128) (a : Sub (ch q i) s) (b : Sub (ch q j) s) : i = j := by
  rcases tab_cases h1 h2 with rfl | rfl | ⟨r, hr, rfl⟩
  · rw [ch_one, sub_leaf (by omega)] at a b; omega
  · rw [ch_two, sub_tab] at a b; omega
  · rw [ch_tab, sub_leaf (by omega)] at a b; omega
theorem sub_not {q i : Nat} (h1 : 16522 ≤ q) (h2 : q < nS) (hi : i < 128) : ¬ Sub (ch q i) q := by
  rcases tab_cases h1 h2 with rfl | rfl | ⟨r, hr, rfl⟩
  · rw [ch_one, sub_leaf (by omega)]; omega
  · rw [ch_two, sub_tab]; omega
  · rw [ch_tab, sub_leaf (by omega)]; omega
theorem sub_self (q : Nat) : Sub q q := .inl rfl
theorem sub_lt {q s : Nat} (h1 : q < nS) (h : Sub q s) : s < nS := by
  rcases Nat.lt_or_ge q 16522 with h2 | h2
  · rw [sub_leaf h2] at h; omega
  · rcases tab_cases h2 h1 with rfl | rfl | ⟨r, hr, rfl⟩
    · rw [sub_one] at h; unfold nS; omega
    · rw [sub_two] at h; unfold nS at *; omega
    · rw [sub_tab] at h; unfold nS; omega
theorem sub_data {q s : Nat} (h1 : 16522 ≤ q) (h2 : q < nS) (h : Sub q s) (hs : s < 16522) : loS q ≤ s ∧ s < hiS q := by
  rcases tab_cases h1 h2 with rfl | rfl | ⟨r, hr, rfl⟩
  · rw [sub_one] at h; show 10 ≤ s ∧ s < 138; omega
  · rw [sub_two] at h; show 138 ≤ s ∧ s < 16522; omega
  · rw [sub_tab] at h; rw [lo_tab, hi_tab]; omega
theorem data_sub {q s : Nat} (h1 : 16522 ≤ q) (h2 : q < nS) (h : loS q ≤ s) (h' : s < hiS q) : Sub q s ∧ s < 16522 := by
  refine ⟨.inr (.inl ⟨h1, h, h'⟩), ?_⟩
  rcases tab_cases h1 h2 with rfl | rfl | ⟨r, hr, rfl⟩
  · have : s < 138 := h'; omega
  · exact h'
  · rw [hi_tab] at h'; omega
/-- below nothing is nothing -/
theorem sub_zero {Z : Nat → Txt} {R : List Int} {q : Nat} (hq : q < nS) (h0 : num Z R q = 0) : ∀ s, Sub q s → num Z R s = 0 := by
  intro s h
  rcases Nat.lt_or_ge q 16522 with h1 | h1
  · rw [sub_leaf h1] at h; rw [h]; exact h0
  · rcases (sub_split h1 hq).mp h with rfl | ⟨j, hj, h⟩
    · exact h0
    · obtain ⟨e, hc⟩ := ch_par h1 hq hj
      have hz : num Z R (ch q j) = 0 := by rw [num_some e hc, h0]; exact if_pos rfl
      rcases Nat.lt_or_ge (ch q j) 16522 with h2 | h2
      · rw [sub_leaf h2] at h; rw [h]; exact hz
      · rcases (sub_split h2 hc).mp h with rfl | ⟨i, hi, h⟩
        · exact hz
        · obtain ⟨e', hc'⟩ := ch_par h2 hc hi
          have : ch (ch q j) i < 16522 := by
            rcases tab_cases h1 hq with rfl | rfl | ⟨r, hr, rfl⟩
            · rw [ch_one] at h2; omega
            · rw [ch_two, ch_tab]; omega
            · rw [ch_tab] at h2; omega
          rw [sub_leaf this] at h
          rw [h, num_some e' hc', hz]; exact if_pos rfl
/-- each table tells of a block -/
def Tight (Z : Nat → Txt) (R : List Int) : Prop := ∀ q, 16522 ≤ q → q < nS → num Z R q ≠ 0 → ∃ x, loS q ≤ x ∧ x < hiS q ∧ num Z R x ≠ 0
/-- Cut at k takes this slot -/
def Dk (Z : Nat → Txt) (R : List Int) (k s : Nat) : Prop := (s < 16522 → k ≤ s) ∧ (16522 ≤ s → ∀ x, loS s ≤ x → x < hiS s → x < k → num Z R x = 0)
theorem dk_data {Z : Nat → Txt} {R : List Int} {k s : Nat} (h : s < 16522) : Dk Z R k s ↔ k ≤ s := ⟨fun a => a.1 h, fun a => ⟨fun _ => a, fun y => by omega⟩⟩
theorem dk_tab {Z : Nat → Txt} {R : List Int} {k s : Nat} (h : 16522 ≤ s) : Dk Z R k s ↔ ∀ x, loS s ≤ x → x < hiS s → x < k → num Z R x = 0 := ⟨fun a => a.2 h, fun a => ⟨fun y => by omega, fun _ => a⟩⟩
theorem dk_ch {Z : Nat → Txt} {R : List Int} {k q : Nat} (h1 : 16522 ≤ q) (h2 : q < nS) : Dk Z R k q ↔ ∀ j, j < 128 → num Z R (ch q j) ≠ 0 → Dk Z R k (ch q j) := by
  rw [dk_tab h1]
  constructor
  · intro h j hj h0
    obtain ⟨e, hc⟩ := ch_par h1 h2 hj
    rcases Nat.lt_or_ge (ch q j) 16522 with h3 | h3
    · rw [dk_data h3]
      rcases Nat.lt_or_ge (ch q j) k with h4 | h4
      · have sd := sub_data h1 h2 ((sub_split h1 h2).mpr (.inr ⟨j, hj, sub_self _⟩)) h3
        exact absurd (h _ sd.1 sd.2 h4) h0
      · exact h4
    · rw [dk_tab h3]
      intro x a b c
      obtain ⟨sx, hx⟩ := data_sub h3 hc a b
      have sd := sub_data h1 h2 ((sub_split h1 h2).mpr (.inr ⟨j, hj, sx⟩)) hx
      exact h x sd.1 sd.2 c
  · intro h x a b c
    obtain ⟨sx, hx⟩ := data_sub h1 h2 a b
    rcases (sub_split h1 h2).mp sx with rfl | ⟨j, hj, sj⟩
    · omega
    · obtain ⟨e, hc⟩ := ch_par h1 h2 hj
      by_cases h0 : num Z R (ch q j) = 0
      · exact sub_zero hc h0 x sj
      · have hD := h j hj h0
        rcases Nat.lt_or_ge (ch q j) 16522 with h3 | h3
        · rw [sub_leaf h3] at sj
          rw [dk_data h3] at hD
          omega
        · rw [dk_tab h3] at hD
          have sd := sub_data h3 hc sj hx
          exact hD x sd.1 sd.2 c
/-- what lies wholly below k, and tells of something, stays -/
theorem dk_low {Z : Nat → Txt} {R : List Int} {k c : Nat} (tg : Tight Z R) (hc : c < nS) (hk : ∀ x, Sub c x → x < 16522 → x < k) : ∀ s, Sub c s → num Z R s ≠ 0 → ¬ Dk Z R k s := by
  intro s h h0 hD
  have hs := sub_lt hc h
  rcases Nat.lt_or_ge s 16522 with h1 | h1
  · have := hk s h h1
    rw [dk_data h1] at hD
    omega
  · obtain ⟨x, a, b, e⟩ := tg s h1 hs h0
    rw [dk_tab h1] at hD
    obtain ⟨sx, hx⟩ := data_sub h1 hs a b
    refine e (hD x a b (hk x ?_ hx))
    rcases Nat.lt_or_ge c 16522 with h2 | h2
    · rw [sub_leaf h2] at h; omega
    · rcases (sub_split h2 hc).mp h with rfl | ⟨j, hj, sj⟩
      · exact sx
      · refine (sub_split h2 hc).mpr (.inr ⟨j, hj, ?_⟩)
        obtain ⟨e', hc'⟩ := ch_par h2 hc hj
        have : 16522 ≤ ch c j := by
          rcases Nat.lt_or_ge (ch c j) 16522 with h3 | h3
          · rw [sub_leaf h3] at sj; omega
          · exact h3
        have e2 : ch c j = s := by
          rcases tab_cases h2 hc with rfl | rfl | ⟨r, hr, rfl⟩
          · rw [ch_one] at this; omega
          · rw [ch_two] at this ⊢ sj
            rw [sub_tab] at sj; omega
          · rw [ch_tab] at this; omega
        rw [e2]; exact sx
/-! Cut under way: E: the slots that were looked at; P: the tables whose bytes wait -/
structure Ct (n k : Nat) (Z : Nat → Txt) (R : List Int) (E P : Nat → Prop) (Z' : Nat → Txt) : Prop where
  bits : ∀ j, 98 + j / 4096 < (geoN n).inodes → (bit Z' j = true ↔ bit Z j = true ∧ ∀ s, s < nS → E s → Dk Z R k s → num Z R s ≠ 0 → num Z R s ≠ j)
  tabs : ∀ q p, 16522 ≤ q → q < nS → num Z R q ≠ 0 → ¬ P q → p < 128 → ¬ (E q ∧ Dk Z R k q) → (E (ch q p) ∧ Dk Z R k (ch q p) → num4 (Z' (num Z R q)) p = 0) ∧ (¬ (E (ch q p) ∧ Dk Z R k (ch q p)) → num4 (Z' (num Z R q)) p = num4 (Z (num Z R q)) p)
  pend : ∀ q p, 16522 ≤ q → q < nS → P q → num Z R q ≠ 0 → p < 128 → num4 (Z' (num Z R q)) p = num4 (Z (num Z R q)) p
  cont : ∀ b, b < n → (geoN n).inodes ≤ b → (∀ q, 16522 ≤ q → q < nS → num Z R q ≠ 0 → b ≠ num Z R q) → Z' b = Z b
theorem Ct.nil (n k : Nat) (Z : Nat → Txt) (R : List Int) : Ct n k Z R (fun _ => False) (fun _ => False) Z :=
  ⟨fun j _ => ⟨fun h => ⟨h, fun _ _ y => y.elim⟩, fun h => h.1⟩, fun q p _ _ _ _ _ _ => ⟨fun y => y.1.elim, fun _ => rfl⟩, fun _ _ _ _ y => y.elim, fun _ _ _ _ => rfl⟩
/-- more slots were looked at, that had nothing or stay -/
theorem Ct.grow {n k : Nat} {Z Z' : Nat → Txt} {R : List Int} {E E' P : Nat → Prop} (c : Ct n k Z R E P Z') (h1 : ∀ s, E s → E' s) (h2 : ∀ s, s < nS → E' s → ¬ E s → num Z R s ≠ 0 → ¬ Dk Z R k s) : Ct n k Z R E' P Z' := by
  refine ⟨fun j hj => ?_, fun q p a b h0 hP hp hq => ?_, c.pend, c.cont⟩
  · rw [c.bits j hj]
    constructor
    · rintro ⟨a, b⟩
      refine ⟨a, fun s hs e hD h0 => ?_⟩
      by_cases he : E s
      · exact b s hs he hD h0
      · exact absurd hD (h2 s hs e he h0)
    · rintro ⟨a, b⟩
      exact ⟨a, fun s hs e => b s hs (h1 s e)⟩
  · obtain ⟨t1, t2⟩ := c.tabs q p a b h0 hP hp fun y => hq ⟨h1 _ y.1, y.2⟩
    refine ⟨fun y => ?_, fun y => t2 fun z => y ⟨h1 _ z.1, z.2⟩⟩
    by_cases he : E (ch q p)
    · exact t1 ⟨he, y.2⟩
    · rw [t2 fun z => he z.1, ← ch_num' a b hp h0]
      by_cases hz : num Z R (ch q p) = 0
      · exact hz
      · exact absurd y.2 (h2 _ (ch_par a b hp).2 y.1 he hz)
theorem Ct.iff {n k : Nat} {Z Z' : Nat → Txt} {R : List Int} {E E' P : Nat → Prop} (c : Ct n k Z R E P Z') (h : ∀ s, s < nS → (E s ↔ E' s)) : Ct n k Z R E' P Z' := by
  refine ⟨fun j hj => ?_, fun q p a b h0 hP hp hq => ?_, c.pend, c.cont⟩
  · rw [c.bits j hj]
    exact ⟨fun x => ⟨x.1, fun s hs e => x.2 s hs ((h s hs).mpr e)⟩, fun x => ⟨x.1, fun s hs e => x.2 s hs ((h s hs).mp e)⟩⟩
  · have := c.tabs q p a b h0 hP hp (by rw [h q b]; exact hq)
    rw [h _ (ch_par a b hp).2] at this; exact this
theorem Ct.iffP {n k : Nat} {Z Z' : Nat → Txt} {R : List Int} {E P P' : Nat → Prop} (c : Ct n k Z R E P Z') (h : ∀ s, P s ↔ P' s) : Ct n k Z R E P' Z' :=
  ⟨c.bits, fun q p a b h0 hP hp hq => c.tabs q p a b h0 (fun y => hP ((h q).mp y)) hp hq, fun q p a b y => c.pend q p a b ((h q).mpr y), c.cont⟩
/-- a table of which nothing was looked at yet waits -/
theorem Ct.wait {n k : Nat} {Z Z' : Nat → Txt} {R : List Int} {E P : Nat → Prop} (c : Ct n k Z R E P Z') {q : Nat} (h1 : 16522 ≤ q) (h2 : q < nS) (hE : ¬ E q) (hc : ∀ p, p < 128 → ¬ E (ch q p)) : Ct n k Z R E (fun x => P x ∨ x = q) Z' := by
  refine ⟨c.bits, fun q' p a b h0 hP => c.tabs q' p a b h0 fun y => hP (.inl y), fun q' p a b hP h0 hp => ?_, c.cont⟩
  rcases hP with hP | rfl
  · exact c.pend q' p a b hP h0 hp
  · by_cases hP : P q'
    · exact c.pend q' p a b hP h0 hp
    · exact (c.tabs q' p h1 h2 h0 hP hp fun y => hE y.1).2 fun y => hc p hp y.1
/-- a block is given back -/
theorem Ct.give {n k : Nat} {Z Z' : Nat → Txt} {R : List Int} {E P : Nat → Prop} (c : Ct n k Z R E P Z') (d : Dim n) (hl : ∀ k, k < n → (Z' k).length = 512) (w : Wf n Z R) {s : Nat} (hs : s < nS) (h0 : num Z R s ≠ 0) (hE : ¬ E s) (hD : Dk Z R k s) (hp : ∀ q p, par s = some (q, p) → P q ∨ (E q ∧ Dk Z R k q)) :
    bit Z' (num Z R s) = true ∧ Ct n k Z R (fun x => E x ∨ x = s) (fun x => P x ∧ x ≠ s) (setZ Z' (num Z R s) false) := by
  obtain ⟨r1, r2, r3⟩ := w.rng s hs h0
  obtain ⟨m1, m2, m3, m4⟩ := d.map r2
  have hb : ∀ j, bit (setZ Z' (num Z R s) false) j = if j = num Z R s then false else bit Z' j := bit_setZ (hl _ m4) false
  have hne : ∀ b, (geoN n).inodes ≤ b → setZ Z' (num Z R s) false b = Z' b := fun b h => setZ_ne (by omega)
  have ti : ∀ q, q < nS → num Z R q ≠ 0 → (geoN n).inodes ≤ num Z R q := fun q a b => by have := (w.rng q a b).1; omega
  refine ⟨(c.bits _ m2).mpr ⟨r3, fun s' h1 h2 _ h4 e => hE (w.inj s' s h1 hs h4 e ▸ h2)⟩, ⟨fun j hj => ?_, fun q p a b h1 hP hp' hq => ?_, fun q p a b hP h1 hp' => by rw [hne _ (ti q b h1)]; exact c.pend q p a b hP.1 h1 hp', fun b a e f => by rw [hne _ e]; exact c.cont b a e f⟩⟩
  · rw [hb]
    by_cases e : j = num Z R s
    · rw [if_pos e]
      exact ⟨fun y => (by cases y), fun y => absurd e.symm (y.2 s hs (.inr rfl) hD h0)⟩
    · rw [if_neg e, c.bits j hj]
      refine ⟨fun y => ⟨y.1, fun s' h1 h2 h3 h4 => ?_⟩, fun y => ⟨y.1, fun s' h1 h2 => y.2 s' h1 (.inl h2)⟩⟩
      rcases h2 with h2 | rfl
      · exact y.2 s' h1 h2 h3 h4
      · exact fun z => e z.symm
  · have qs : q ≠ s := fun e => hq ⟨.inr e, e ▸ hD⟩
    have hP : ¬ P q := fun y => hP ⟨y, qs⟩
    have t := c.tabs q p a b h1 hP hp' fun y => hq ⟨.inl y.1, y.2⟩
    have cs : ch q p ≠ s := fun e => by
      rcases hp q p (by rw [← e]; exact (ch_par a b hp').1) with y | y
      · exact hP y
      · exact hq ⟨.inl y.1, y.2⟩
    rw [hne _ (ti q b h1)]
    refine ⟨fun y => t.1 ⟨y.1.resolve_right cs, y.2⟩, fun y => t.2 fun z => y ⟨.inl z.1, z.2⟩⟩
/-- a table that waited is written -/
theorem Ct.write {n k : Nat} {Z Z' : Nat → Txt} {R : List Int} {E P : Nat → Prop} {b : Txt} (c : Ct n k Z R E P Z') (d : Dim n) (w : Wf n Z R) {q : Nat} (h1 : 16522 ≤ q) (h2 : q < nS) (h0 : num Z R q ≠ 0)
    (hb : ∀ p, p < 128 → (E (ch q p) ∧ Dk Z R k (ch q p) → num4 b p = 0) ∧ (¬ (E (ch q p) ∧ Dk Z R k (ch q p)) → num4 b p = num4 (Z (num Z R q)) p)) : Ct n k Z R E (fun x => P x ∧ x ≠ q) (up Z' (num Z R q) b) := by
  obtain ⟨r1, r2, r3⟩ := w.rng q h2 h0
  have hd := d.data
  have ne : ∀ q', q' < nS → num Z R q' ≠ 0 → q' ≠ q → num Z R q' ≠ num Z R q := fun q' a e f y => f (w.inj q' q a h2 e y)
  refine ⟨fun j hj => ?_, fun q' p a e h3 hP hp hq => ?_, fun q' p a e hP h3 hp => ?_, fun x a e f => ?_⟩
  · rw [bit_up (by have := (d.map r2).2.2.1; omega)]; exact c.bits j hj
  · by_cases hqq : q' = q
    · subst hqq
      rw [up_at]; exact hb p hp
    · rw [up_ne _ _ (ne q' e h3 hqq)]
      exact c.tabs q' p a e h3 (fun y => hP ⟨y, hqq⟩) hp hq
  · rw [up_ne _ _ (ne q' e h3 hP.2)]; exact c.pend q' p a e hP.1 h3 hp
  · rw [up_ne _ _ (f q h1 h2 h0)]; exact c.cont x a e f
/-- a table that waited stays as it is -/
theorem Ct.stay {n k : Nat} {Z Z' : Nat → Txt} {R : List Int} {E P : Nat → Prop} (c : Ct n k Z R E P Z') {q : Nat} (hP : P q) (hz : ∀ p, p < 128 → E (ch q p) → Dk Z R k (ch q p) → num Z R (ch q p) = 0) : Ct n k Z R E (fun x => P x ∧ x ≠ q) Z' := by
  refine ⟨c.bits, fun q' p a e h3 hP' hp hq => ?_, fun q' p a e hP' h3 hp => c.pend q' p a e hP'.1 h3 hp, c.cont⟩
  by_cases hqq : q' = q
  · subst hqq
    have t := c.pend q' p a e hP h3 hp
    refine ⟨fun y => ?_, fun _ => t⟩
    rw [t, ← ch_num' a e hp h3]
    exact hz p hp y.1 y.2
  · exact c.tabs q' p a e h3 (fun y => hP' ⟨y, hqq⟩) hp hq
end Go.Proofs.YtcdpakjhjmchhaaGreatDoor.Bm
/-
  WHICH BLOCKS A FILE HAS, plainly: Cut.
-/
namespace Go.Proofs.YtcdpakjhjmchhaaGreatDoor.Bm
open Go Go.Proofs Go.Proofs.YtcdpakjhjmchhaaGreatDoor.Wx Go.Proofs.YtcdpakjhjmchhaaGreatDoor.Hp Go.Proofs.YtcdpakjhjmchhaaGreatDoor.W Go.Proofs.YtcdpakjhjmchhaaGreatDoor.Ad Go.Proofs.YtcdpakjhjmchhaaGreatDoor.Tm Go.Proofs.YtcdpakjhjmchhaaGreatDoor.Bt Go.Proofs.YtcdpakjhjmchhaaGreatDoor.Spc Go.Proofs.YtcdpakjhjmchhaaGreatDoor.Re Go.Proofs.YtcdpakjhjmchhaaGreatDoor.Av

theorem nz60 {x : Int} (e : x = 60) : x ≠ 0 := by rw [e]; decide
theorem nz90 {x : Int} (e : x = 90) : x ≠ 0 := by rw [e]; decide
/-- what is put is what was put, and in W -/
def KsOk (Tb T : TM) (W : List Int) : Prop := ∀ x ∈ ks T, x ∈ ks Tb ∨ x ∈ W
theorem KsOk.len {Tb T : TM} {W : List Int} (a : KsOk Tb T W) (nd : (ks T).Nodup) : (ks T).length ≤ (ks Tb).length + W.length := Bm.keys_le nd a
/-- what is fixed while a Cut runs -/
structure Cx (n k : Nat) (Z : Nat → Txt) (R : List Int) (W : List Int) : Prop where
  d : Dim n
  w : Wf n Z R
  tg : Tight Z R
  map : ∀ j, j < n → ((98 + j / 4096 : Nat) : Int) ∈ W
  one : ((num Z R 16522 : Nat) : Int) ∈ W
  two : ((num Z R 16523 : Nat) : Int) ∈ W
  tab : ((num Z R (16524 + (k - 138) / 128) : Nat) : Int) ∈ W
structure St (n k : Nat) (Z : Nat → Txt) (R W : List Int) (E P : Nat → Prop) (T0 Tb : TM) (Z' : Nat → Txt) (T : TM) : Prop where
  a : Av n Z' T
  c : Ct n k Z R E P Z'
  x : Ext T0 T
  ks : KsOk Tb T W
theorem St.iff {n k : Nat} {Z Z' : Nat → Txt} {R W : List Int} {E E' P P' : Nat → Prop} {T0 Tb T : TM} (s : St n k Z R W E P T0 Tb Z' T) (h : ∀ s, s < nS → (E s ↔ E' s)) (hp : ∀ s, P s ↔ P' s) : St n k Z R W E' P' T0 Tb Z' T :=
  ⟨s.a, (s.c.iff h).iffP hp, s.x, s.ks⟩
theorem St.grow {n k : Nat} {Z Z' : Nat → Txt} {R W : List Int} {E E' P : Nat → Prop} {T0 Tb T : TM} (s : St n k Z R W E P T0 Tb Z' T) (h1 : ∀ s, E s → E' s) (h2 : ∀ s, s < nS → E' s → ¬ E s → num Z R s ≠ 0 → ¬ Dk Z R k s) : St n k Z R W E' P T0 Tb Z' T :=
  ⟨s.a, s.c.grow h1 h2, s.x, s.ks⟩
/-- something is taken -/
def Som (k : Nat) (Z : Nat → Txt) (R : List Int) : Prop := ∃ x, x < nS ∧ num Z R x ≠ 0 ∧ Dk Z R k x
/-- what became of slot s and of all below it -/
inductive Out (n k : Nat) (Z : Nat → Txt) (R W : List Int) (E P : Nat → Prop) (T0 Tb : TM) (s : Nat) (T : TM) (r : TM × Bool × Int) : Prop where
  | ok (Z' : Nat → Txt) : r.2.2 = 0 → (r.2.1 = true ↔ Dk Z R k s) → St n k Z R W (fun x => E x ∨ Sub s x) P T0 Tb Z' r.1 → ((∀ x, Sub s x → num Z R x ≠ 0 → ¬ Dk Z R k x) → r.1 = T) → Out n k Z R W E P T0 Tb s T r
  | full : r.2.2 = 60 → Ext T0 r.1 → (96 ≤ (Av.ks Tb).length + W.length ∧ Som k Z R) → Out n k Z R W E P T0 Tb s T r
theorem give_ext {T0 T : TM} (e : Ext T0 T) (g : G) (i : Int) : Ext T0 (Spc.give T g i).1 := by
  unfold Spc.give
  split
  · exact e
  · split
    · exact e
    · split
      · exact e
      · exact setBit_ext e _ _ _
theorem give_ok {n k : Nat} {Z Z' : Nat → Txt} {R W : List Int} {E P : Nat → Prop} {T0 Tb T : TM} (C : Cx n k Z R W) (st : St n k Z R W E P T0 Tb Z' T) {s : Nat} (hs : s < nS) (h0 : num Z R s ≠ 0) (hE : ¬ E s) (hD : Dk Z R k s) (hp : ∀ q p, par s = some (q, p) → P q ∨ (E q ∧ Dk Z R k q)) :
    ((Spc.give T (geoN n) (num Z R s : Nat)).2 = 0 ∧ St n k Z R W (fun x => E x ∨ x = s) (fun x => P x ∧ x ≠ s) T0 Tb (setZ Z' (num Z R s) false) (Spc.give T (geoN n) (num Z R s : Nat)).1) ∨
      ((Spc.give T (geoN n) (num Z R s : Nat)).2 = 60 ∧ Ext T0 (Spc.give T (geoN n) (num Z R s : Nat)).1 ∧ (96 ≤ (Av.ks Tb).length + W.length ∧ Som k Z R)) := by
  obtain ⟨r1, r2, r3⟩ := C.w.rng s hs h0
  obtain ⟨b1, c1⟩ := st.c.give C.d st.a.len C.w hs h0 hE hD hp
  rcases st.a.give C.d r1 r2 b1 with ⟨e, a', k'⟩ | ⟨e, h96⟩
  · refine .inl ⟨e, a', c1, give_ext st.x _ _, fun x hx => ?_⟩
    rcases (k' x).mp hx with hx | hx
    · exact st.ks x hx
    · exact .inr (hx ▸ C.map _ r2)
  · refine .inr ⟨by rw [e], give_ext st.x _ _, ?_, s, hs, h0, hD⟩
    have := st.ks.len st.a.keys
    omega
theorem giveF_give {n k : Nat} {Z : Nat → Txt} {R W : List Int} (C : Cx n k Z R W) {s : Nat} (hs : s < nS) (h0 : num Z R s ≠ 0) (T : TM) : giveF T (geoN n) (num Z R s : Nat) = Spc.give T (geoN n) (num Z R s : Nat) := by
  obtain ⟨r1, r2, r3⟩ := C.w.rng s hs h0
  unfold giveF
  rw [if_neg fun y => y (look_ok r1 r2)]
theorem leaf_ok {n k : Nat} {Z Z' : Nat → Txt} {R W : List Int} {E P : Nat → Prop} {T0 Tb T : TM} (C : Cx n k Z R W) (st : St n k Z R W E P T0 Tb Z' T) {s : Nat} (hs : s < 16522) (h0 : num Z R s ≠ 0) (hE : ¬ E s) (hk : k ≤ s) (hP : ∀ x, P x → 16522 ≤ x) (hp : ∀ q p, par s = some (q, p) → P q) (i : Nat) :
    Out n k Z R W E P T0 Tb s T (leafD (geoN n) T i (num Z R s : Nat)) := by
  have hn : s < nS := by unfold nS; omega
  have hD : Dk Z R k s := (dk_data hs).mpr hk
  have eg : leafD (geoN n) T i (num Z R s : Nat) = ((Spc.give T (geoN n) (num Z R s : Nat)).1, true, (Spc.give T (geoN n) (num Z R s : Nat)).2) := by
    show ((giveF T (geoN n) (num Z R s : Nat)).1, true, (giveF T (geoN n) (num Z R s : Nat)).2) = _
    rw [giveF_give C hn h0]
  rw [eg]
  rcases give_ok C st hn h0 hE hD (fun q p e => .inl (hp q p e)) with ⟨e, st'⟩ | ⟨e, x, h⟩
  · refine .ok _ e ⟨fun _ => hD, fun _ => rfl⟩ (st'.iff (fun x _ => by rw [sub_leaf hs]) fun x => ⟨fun y => y.1, fun y => ⟨y, fun z => by have := hP x y; omega⟩⟩) fun h => absurd hD (h s (sub_self s) h0)
  · exact .full e x h
/-! a table's numbers, one behind the other -/
structure GoI (k : Nat) (Z : Nat → Txt) (R : List Int) (q i : Nat) (S : CutS) : Prop where
  len : S.b.length = 512
  b : ∀ p, p < 128 → (p < i ∧ Dk Z R k (ch q p) → num4 S.b p = 0) ∧ (¬ (p < i ∧ Dk Z R k (ch q p)) → num4 S.b p = num4 (Z (num Z R q)) p)
  left : S.left = true ↔ ∃ j, j < i ∧ num Z R (ch q j) ≠ 0 ∧ ¬ Dk Z R k (ch q j)
  turned : S.turned = true ↔ ∃ j, j < i ∧ num Z R (ch q j) ≠ 0 ∧ Dk Z R k (ch q j)
theorem GoI.zero {k : Nat} {Z : Nat → Txt} {R : List Int} {q i : Nat} {S : CutS} (I : GoI k Z R q i S) (h1 : 16522 ≤ q) (h2 : q < nS) (h0 : num Z R q ≠ 0) (hi : i < 128) (hz : num Z R (ch q i) = 0) : GoI k Z R q (i + 1) S := by
  refine ⟨I.len, fun p hp => ?_, ?_, ?_⟩
  · obtain ⟨b1, b2⟩ := I.b p hp
    by_cases e : p = i
    · subst e
      have b2 := b2 fun y => absurd y.1 (Nat.lt_irrefl _)
      have e0 : num4 (Z (num Z R q)) p = 0 := by rw [← ch_num' h1 h2 hp h0]; exact hz
      exact ⟨fun _ => b2.trans e0, fun _ => b2⟩
    · exact ⟨fun y => b1 ⟨by omega, y.2⟩, fun y => b2 fun z => y ⟨by omega, z.2⟩⟩
  · rw [I.left]
    refine ⟨fun ⟨j, a, b⟩ => ⟨j, by omega, b⟩, fun ⟨j, a, b⟩ => ⟨j, ?_, b⟩⟩
    by_cases e : j = i
    · subst e; exact absurd hz b.1
    · omega
  · rw [I.turned]
    refine ⟨fun ⟨j, a, b⟩ => ⟨j, by omega, b⟩, fun ⟨j, a, b⟩ => ⟨j, ?_, b⟩⟩
    by_cases e : j = i
    · subst e; exact absurd hz b.1
    · omega
theorem GoI.step {k : Nat} {Z : Nat → Txt} {R : List Int} {q i : Nat} {S : CutS} {gone : Bool} {T' : TM} (I : GoI k Z R q i S) (hi : i < 128) (hz : num Z R (ch q i) ≠ 0) (hg : gone = true ↔ Dk Z R k (ch q i)) :
    GoI k Z R q (i + 1) ⟨T', if gone = true then set4 S.b i 0 else S.b, S.left || !gone, S.turned || gone⟩ := by
  refine ⟨?_, fun p hp => ?_, ?_, ?_⟩
  · show (if gone = true then set4 S.b i 0 else S.b).length = 512
    split
    · exact set4_length I.len hi
    · exact I.len
  · obtain ⟨b1, b2⟩ := I.b p hp
    show (_ → num4 (if gone = true then set4 S.b i 0 else S.b) p = 0) ∧ (_ → num4 (if gone = true then set4 S.b i 0 else S.b) p = _)
    by_cases hgt : gone = true
    · rw [if_pos hgt, num4_set I.len hi hp (by decide)]
      by_cases e : p = i
      · rw [if_pos e]
        exact ⟨fun _ => rfl, fun y => absurd ⟨by omega, e ▸ hg.mp hgt⟩ y⟩
      · rw [if_neg e]
        exact ⟨fun y => b1 ⟨by omega, y.2⟩, fun y => b2 fun z => y ⟨by omega, z.2⟩⟩
    · rw [if_neg hgt]
      have hnd : ¬ Dk Z R k (ch q i) := fun y => hgt (hg.mpr y)
      refine ⟨fun y => b1 ⟨?_, y.2⟩, fun y => b2 fun z => y ⟨by omega, z.2⟩⟩
      by_cases e : p = i
      · exact absurd (e ▸ y.2) hnd
      · omega
  · show (S.left || !gone) = true ↔ _
    rw [Bool.or_eq_true, I.left]
    constructor
    · rintro (⟨j, a, b⟩ | y)
      · exact ⟨j, by omega, b⟩
      · refine ⟨i, by omega, hz, fun z => ?_⟩
        rw [hg.mpr z] at y; cases y
    · rintro ⟨j, a, b, c⟩
      by_cases e : j = i
      · right
        cases hgt : gone with
        | true => exact absurd (e ▸ hg.mp hgt) c
        | false => rfl
      · exact .inl ⟨j, by omega, b, c⟩
  · show (S.turned || gone) = true ↔ _
    rw [Bool.or_eq_true, I.turned]
    constructor
    · rintro (⟨j, a, b⟩ | y)
      · exact ⟨j, by omega, b⟩
      · exact ⟨i, by omega, hz, hg.mp y⟩
    · rintro ⟨j, a, b, c⟩
      by_cases e : j = i
      · exact .inr (hg.mpr (e ▸ c))
      · exact .inl ⟨j, by omega, b, c⟩
def Ei (q : Nat) (E : Nat → Prop) (i : Nat) : Nat → Prop := fun s => E s ∨ ∃ j, j < i ∧ Sub (ch q j) s
theorem ei_succ (q : Nat) (E : Nat → Prop) (i s : Nat) : (Ei q E i s ∨ Sub (ch q i) s) ↔ Ei q E (i + 1) s := by
  unfold Ei
  constructor
  · rintro ((y | ⟨j, a, b⟩) | y)
    · exact .inl y
    · exact .inr ⟨j, by omega, b⟩
    · exact .inr ⟨i, by omega, y⟩
  · rintro (y | ⟨j, a, b⟩)
    · exact .inl (.inl y)
    · by_cases e : j = i
      · subst e; exact .inr b
      · exact .inl (.inr ⟨j, by omega, b⟩)
theorem cutGo_ok {n k : Nat} {Z : Nat → Txt} {R W : List Int} {E P : Nat → Prop} {T0 Tb : TM} (C : Cx n k Z R W) {q : Nat} (h1 : 16522 ≤ q) (h2 : q < nS) (h0 : num Z R q ≠ 0) {from_ : Int} {dM : DropM} (hE : ∀ s, Sub q s → ¬ E s)
    (hlow : ∀ i : Nat, i < 128 → (i : Int) < from_ → ∀ s, Sub (ch q i) s → num Z R s ≠ 0 → ¬ Dk Z R k s)
    (hd : ∀ i : Nat, i < 128 → from_ ≤ i → num Z R (ch q i) ≠ 0 → ∀ (E' : Nat → Prop) Z' T', (∀ s, Sub (ch q i) s → ¬ E' s) → St n k Z R W E' P T0 Tb Z' T' → Out n k Z R W E' P T0 Tb (ch q i) T' (dM T' i (num Z R (ch q i) : Nat))) :
    ∀ (l : List Int) (i : Nat) (S : CutS) (Z' : Nat → Txt), i + l.length = 128 → (∀ j (hj : j < l.length), l[j] = ((num Z R (ch q (i + j)) : Nat) : Int)) → St n k Z R W (Ei q E i) P T0 Tb Z' S.T → GoI k Z R q i S →
      ((cutGo dM from_ l i S).2 = 60 ∧ Ext T0 (cutGo dM from_ l i S).1.T ∧ (96 ≤ (Av.ks Tb).length + W.length ∧ Som k Z R)) ∨
      ((cutGo dM from_ l i S).2 = 0 ∧ ∃ Z'', St n k Z R W (Ei q E 128) P T0 Tb Z'' (cutGo dM from_ l i S).1.T ∧ GoI k Z R q 128 (cutGo dM from_ l i S).1 ∧ ((∀ x, Sub q x → num Z R x ≠ 0 → ¬ Dk Z R k x) → (cutGo dM from_ l i S).1.T = S.T))
  | [], i, S, Z', hi, _, st, I => by
    have : i = 128 := hi
    subst this
    exact .inr ⟨rfl, Z', st, I, fun _ => rfl⟩
  | v :: r, i, S, Z', hi, hv, st, I => by
    rw [List.length_cons] at hi
    have ev : v = ((num Z R (ch q i) : Nat) : Int) := hv 0 (Nat.succ_pos _)
    have hv' : ∀ j (hj : j < r.length), r[j] = ((num Z R (ch q (i + 1 + j)) : Nat) : Int) := fun j hj => by
      have := hv (j + 1) (Nat.succ_lt_succ hj)
      rw [show i + (j + 1) = i + 1 + j by omega] at this
      exact this
    have hi128 : i < 128 := by omega
    have hc := (ch_par h1 h2 hi128).2
    have hEc : ∀ s, Sub (ch q i) s → ¬ Ei q E i s := fun s hs y => by
      rcases y with y | ⟨j, hj, y⟩
      · exact hE s ((sub_split h1 h2).mpr (.inr ⟨i, hi128, hs⟩)) y
      · have := sub_inj h1 h2 hi128 (show j < 128 by omega) hs y
        omega
    rw [cutGo_cons]
    by_cases hz : num Z R (ch q i) = 0
    · rw [if_pos (by omega)]
      refine cutGo_ok C h1 h2 h0 hE hlow hd r (i + 1) S Z' (by omega) hv' (st.grow (fun s y => (ei_succ q E i s).mp (.inl y)) fun s hs y hn hz' => ?_) (I.zero h1 h2 h0 hi128 hz)
      rcases (ei_succ q E i s).mpr y with y | y
      · exact absurd y hn
      · exact absurd (sub_zero hc hz s y) hz'
    · rw [if_neg (by omega)]
      by_cases hf : (i : Int) < from_
      · rw [if_pos hf]
        have hl := hlow i hi128 hf
        have I' := I.step (T' := S.T) (gone := false) hi128 hz ⟨fun y => (by cases y), fun y => absurd y (hl _ (sub_self _) hz)⟩
        rw [Bool.not_false, Bool.or_true, Bool.or_false, if_neg (fun y => by cases y)] at I'
        exact cutGo_ok C h1 h2 h0 hE hlow hd r (i + 1) { S with left := true } Z' (by omega) hv' (st.grow (fun s y => (ei_succ q E i s).mp (.inl y)) fun s hs y hn hz' => by
          rcases (ei_succ q E i s).mpr y with y | y
          · exact absurd y hn
          · exact hl s y hz') I'
      · rw [if_neg hf, ev]
        rcases hd i hi128 (by omega) hz (Ei q E i) Z' S.T hEc st with ⟨Z'', e1, e2, st', e4⟩ | ⟨e1, e2, e3⟩
        · rw [if_neg (fun y => y e1)]
          have I' := I.step (T' := (dM S.T i (num Z R (ch q i) : Nat)).1) hi128 hz e2
          rcases cutGo_ok C h1 h2 h0 hE hlow hd r (i + 1) _ Z'' (by omega) hv' (st'.iff (fun s _ => ei_succ q E i s) fun _ => Iff.rfl) I' with y | ⟨y1, Z3, y2, y3, y4⟩
          · exact .inl y
          · refine .inr ⟨y1, Z3, y2, y3, fun h => (y4 h).trans (e4 fun x hx => h x ((sub_split h1 h2).mpr (.inr ⟨i, hi128, hx⟩)))⟩
        · rw [if_pos (nz60 e1)]
          exact .inl ⟨e1, e2, e3⟩
theorem cutT_ok {n k : Nat} {Z Z' : Nat → Txt} {R W : List Int} {E P : Nat → Prop} {T0 Tb T : TM} (C : Cx n k Z R W) {q : Nat} (h1 : 16522 ≤ q) (h2 : q < nS) (h0 : num Z R q ≠ 0) {from_ : Int} {dM : DropM} (hE : ∀ s, Sub q s → ¬ E s) (hP : ¬ P q) (hpar : ∀ q' p, par q = some (q', p) → P q')
    (hW : ∀ i j, i < 128 → j < 128 → num Z R (ch q i) ≠ 0 → ¬ Dk Z R k (ch q i) → num Z R (ch q j) ≠ 0 → Dk Z R k (ch q j) → ((num Z R q : Nat) : Int) ∈ W)
    (hlow : ∀ i : Nat, i < 128 → (i : Int) < from_ → ∀ s, Sub (ch q i) s → num Z R s ≠ 0 → ¬ Dk Z R k s)
    (hd : ∀ i : Nat, i < 128 → from_ ≤ i → num Z R (ch q i) ≠ 0 → ∀ (E' : Nat → Prop) Z' T', (∀ s, Sub (ch q i) s → ¬ E' s) → St n k Z R W E' (fun x => P x ∨ x = q) T0 Tb Z' T' → Out n k Z R W E' (fun x => P x ∨ x = q) T0 Tb (ch q i) T' (dM T' i (num Z R (ch q i) : Nat)))
    (st : St n k Z R W E P T0 Tb Z' T) : Out n k Z R W E P T0 Tb q T ((cutT dM T (geoN n) (num Z R q : Nat) from_).1, !(cutT dM T (geoN n) (num Z R q : Nat) from_).2.1, (cutT dM T (geoN n) (num Z R q : Nat) from_).2.2) := by
  obtain ⟨r1, r2, r3⟩ := C.w.rng q h2 h0
  have hdat := C.d.data
  have hEc : ∀ p, p < 128 → ¬ E (ch q p) := fun p hp => hE _ ((sub_split h1 h2).mpr (.inr ⟨p, hp, sub_self _⟩))
  have cw := st.c.wait h1 h2 (hE q (sub_self q)) hEc
  have st0 : St n k Z R W (Ei q E 0) (fun x => P x ∨ x = q) T0 Tb Z' T := ⟨st.a, cw.iff fun s _ => ⟨.inl, fun y => y.elim id fun ⟨j, a, _⟩ => by omega⟩, st.x, st.ks⟩
  have hb : ∀ p, p < 128 → num4 (Z' (num Z R q)) p = num4 (Z (num Z R q)) p := fun p hp => cw.pend q p h1 h2 (.inr rfl) h0 hp
  have I0 : GoI k Z R q 0 ⟨T, Z' (num Z R q), false, false⟩ := ⟨st.a.len _ r2, fun p hp => ⟨fun y => (by omega), fun _ => hb p hp⟩, ⟨fun y => (by cases y), fun ⟨j, a, _⟩ => by omega⟩, ⟨fun y => (by cases y), fun ⟨j, a, _⟩ => by omega⟩⟩
  unfold cutT
  rw [if_neg (fun y => y (look_ok r1 r2)), st.a.z _ r2, if_neg (fun y => y rfl)]
  have G := cutGo_ok C h1 h2 h0 hE hlow hd (numsL (Z' (num Z R q))) 0 ⟨T, Z' (num Z R q), false, false⟩ Z' (by rw [numsL_len]) (fun j hj => by
    have hj' : j < 128 := by rw [numsL_len] at hj; exact hj
    rw [numsL_get hj, hb j hj', Nat.zero_add, ch_num' h1 h2 hj' h0]) st0 I0
  show Out n k Z R W E P T0 Tb q T ((cutEnd (geoN n) (num Z R q : Nat) (cutGo dM from_ (numsL (Z' (num Z R q))) 0 ⟨T, Z' (num Z R q), false, false⟩)).1, !(cutEnd (geoN n) (num Z R q : Nat) (cutGo dM from_ (numsL (Z' (num Z R q))) 0 ⟨T, Z' (num Z R q), false, false⟩)).2.1, (cutEnd (geoN n) (num Z R q : Nat) (cutGo dM from_ (numsL (Z' (num Z R q))) 0 ⟨T, Z' (num Z R q), false, false⟩)).2.2)
  generalize cutGo dM from_ (numsL (Z' (num Z R q))) 0 ⟨T, Z' (num Z R q), false, false⟩ = c at G
  have e128 : ∀ s, (Ei q E 128 s ∨ s = q) ↔ (E s ∨ Sub q s) := fun s => by
    rw [sub_split h1 h2]
    unfold Ei
    constructor
    · rintro ((y | y) | y)
      · exact .inl y
      · exact .inr (.inr y)
      · exact .inr (.inl y)
    · rintro (y | y | y)
      · exact .inl (.inl y)
      · exact .inr y
      · exact .inl (.inr y)
  have ep : ∀ s, ((P s ∨ s = q) ∧ s ≠ q) ↔ P s := fun s => ⟨fun y => y.1.resolve_right y.2, fun y => ⟨.inl y, fun e => hP (e ▸ y)⟩⟩
  have hnE : ¬ Ei q E 128 q := by
    rintro (y | ⟨j, hj, y⟩)
    · exact hE q (sub_self q) y
    · exact sub_not h1 h2 hj y
  unfold cutEnd
  rcases G with ⟨e1, e2, e3⟩ | ⟨e1, Z'', st', I, nf⟩
  · rw [if_pos (nz60 e1)]
    exact .full e1 e2 e3
  rw [if_neg (fun y => y e1)]
  have Dq : Dk Z R k q ↔ c.1.left = false := by
    rw [dk_ch h1 h2]
    constructor
    · intro h
      cases hl : c.1.left with
      | false => rfl
      | true =>
        obtain ⟨j, a, b, e⟩ := I.left.mp hl
        exact absurd (h j a b) e
    · intro h j a b
      refine Classical.byContradiction fun e => ?_
      rw [I.left.mpr ⟨j, a, b, e⟩] at h; cases h
  cases hl : c.1.left with
  | false =>
    rw [if_pos rfl]
    have hD := Dq.mpr hl
    rcases give_ok C st' h2 h0 hnE hD (fun q' p e => .inl (.inl (hpar q' p e))) with ⟨e, st2⟩ | ⟨e, x, h⟩
    · refine .ok _ e ⟨fun _ => hD, fun _ => rfl⟩ (st2.iff (fun s _ => e128 s) ep) fun h => absurd hD (h q (sub_self q) h0)
    · exact .full e x h
  | true =>
    rw [if_neg (fun y => by cases y)]
    have hD : ¬ Dk Z R k q := fun y => by rw [Dq.mp y] at hl; cases hl
    have Eq : ∀ p, p < 128 → Ei q E 128 (ch q p) := fun p hp => .inr ⟨p, hp, sub_self _⟩
    have gro : ∀ {P' : Nat → Prop} {Z3 : Nat → Txt} {T3 : TM}, St n k Z R W (Ei q E 128) P' T0 Tb Z3 T3 → St n k Z R W (fun x => E x ∨ Sub q x) P' T0 Tb Z3 T3 := fun s3 => s3.grow (fun s y => (e128 s).mp (.inl y)) fun s hs y hn hz => by
      rcases (e128 s).mpr y with y | y
      · exact absurd y hn
      · exact y ▸ hD
    cases ht : c.1.turned with
    | false =>
      rw [if_neg (fun y => by cases y)]
      have c3 := st'.c.stay (q := q) (.inr rfl) fun p hp _ hDp => Classical.byContradiction fun z => by rw [I.turned.mpr ⟨p, hp, z, hDp⟩] at ht; cases ht
      exact .ok Z'' rfl ⟨fun y => (by cases y), fun y => absurd y hD⟩ (gro ⟨st'.a, c3.iffP ep, st'.x, st'.ks⟩) nf
    | true =>
      rw [if_pos rfl]
      obtain ⟨j, hj, j0, jD⟩ := I.turned.mp ht
      obtain ⟨i, hi, i0, iD⟩ := I.left.mp hl
      have hw := hW i j hi hj i0 iD j0 jD
      have bp : ∀ p, p < 128 → (Ei q E 128 (ch q p) ∧ Dk Z R k (ch q p) → num4 c.1.b p = 0) ∧ (¬ (Ei q E 128 (ch q p) ∧ Dk Z R k (ch q p)) → num4 c.1.b p = num4 (Z (num Z R q)) p) := fun p hp =>
        ⟨fun y => (I.b p hp).1 ⟨hp, y.2⟩, fun y => (I.b p hp).2 fun z => y ⟨Eq p hp, z.2⟩⟩
      have c3 := st'.c.write C.d C.w h1 h2 h0 bp
      rcases st'.a.write_full (i := num Z R q) (bs := c.1.b) (by omega) r2 I.len with e | ⟨e, h96, _⟩
      · refine .ok _ e ⟨fun y => (by cases y), fun y => absurd y hD⟩ (gro ⟨st'.a.write (by omega) r2 I.len e, c3.iffP ep, st'.x.write _ _, fun x hx => ?_⟩) fun h => ?_
        · rcases (write_keys e x).mp hx with hx | hx
          · exact st'.ks x hx
          · exact .inr (hx ▸ hw)
        · exact absurd jD (h _ ((sub_split h1 h2).mpr (.inr ⟨j, hj, sub_self _⟩)) j0)
      · refine .full (by show (c.1.T.write _ _).2 = 60; rw [e]) (st'.x.write _ _) ⟨?_, ch q j, (ch_par h1 h2 hj).2, j0, jD⟩
        have := st'.ks.len st'.a.keys
        omega
end Go.Proofs.YtcdpakjhjmchhaaGreatDoor.Bm
