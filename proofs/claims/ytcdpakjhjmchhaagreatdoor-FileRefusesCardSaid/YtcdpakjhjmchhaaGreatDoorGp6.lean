/-
  TEXTS FOR fileRefuses_card: FiE BnA FiP FiQ FiR FiS InN FiG FiT FiU FiF TaA FiV FiW FiX FiY FiZ FjX Fref.
-/
import Derived.Test.YtcdpakjhjmchhaaGreatDoorGp5
namespace Go.Proofs.YtcdpakjhjmchhaaGreatDoor.Fi
open Go Go.Proofs Go.Proofs.YtcdpakjhjmchhaaGreatDoor.Wx Go.Proofs.YtcdpakjhjmchhaaGreatDoor.Hp Go.Proofs.YtcdpakjhjmchhaaGreatDoor.W Go.Proofs.YtcdpakjhjmchhaaGreatDoor.Ad Go.Proofs.YtcdpakjhjmchhaaGreatDoor.Tm Go.Proofs.YtcdpakjhjmchhaaGreatDoor.Spc Go.Proofs.YtcdpakjhjmchhaaGreatDoor.Re Go.Proofs.YtcdpakjhjmchhaaGreatDoor.Av Go.Proofs.YtcdpakjhjmchhaaGreatDoor.Rg
open Go.Proofs.YtcdpakjhjmchhaaGreatDoor.Hd (ints)
open Go.Proofs.YtcdpakjhjmchhaaGreatDoor.In (Glo ints_length ints_one mayR decA)
open Go.Proofs.YtcdpakjhjmchhaaGreatDoor.Ino (getM putM Cok getM_length)
open Go.Proofs.YtcdpakjhjmchhaaGreatDoor.Bm (findM cutM addM allM pcellA write_un cutM_un addM_un setM walkA)
theorem setM_len (T : TM) (R : List Int) (s : Nat × Nat) (a : Int) (b : Txt) (v : Int) : (setM T R s a b v).1.2.length = R.length := by
  unfold setM
  split
  · exact List.length_set
  · split
    · exact List.length_set
    · split
      · exact List.length_set
      · rfl
theorem walkA_len (g : G) : ∀ (l : List (Nat × Nat)) (T : TM) (R : List Int) (a : Int), (walkA g l T R a).1.2.length = R.length
  | [], _, _, _ => rfl
  | s :: r, T, R, a => by
    unfold walkA
    split
    · rfl
    · split
      · split
        · rfl
        · exact walkA_len g r T R _
      · split
        · rfl
        · split
          · exact setM_len ..
          · split
            · exact setM_len ..
            · split
              · exact setM_len ..
              · rw [walkA_len g r]; exact setM_len ..
theorem addM_length {T : TM} {g : G} {R : List Int} {k : Int} (hR : R.length = 15) : (addM T g R k).2.1.length = 15 := by
  unfold addM
  split
  · rfl
  · split
    · rfl
    · show (walkA g _ T R 0).1.2.length = 15
      rw [walkA_len, hR]
theorem extract_mk (s : Txt) (i j : Nat) : ByteArray.extract (mkStr s) i j = mkStr ((s.drop i).take (j - i)) := by
  apply ByteArray.ext
  rw [ByteArray.data_extract]
  apply Array.ext'
  simp [mkStr, List.extract]
theorem copy_str {elem : TI} (he : elem.cells = 1) {b o n m : Nat} {s : ByteArray} {new : Txt} {h : Heap} {k : Nat → Heap → Prop} (hm : min s.size n = m) (hn : s.toList.take m = new) (hl' : new.length = m) (w : Own h b) (hl : o + m ≤ (rd h b).length)
    (H : ∀ h', Did b h h' (put (rd h b) o (new.map bv)) → k m h') : CopyP elem (some ⟨b, o, none⟩) n (.string s) h k := by
  subst hm
  subst hn
  refine ⟨by rw [he]; trivial, ?_, ?_⟩
  · simp only [WrS, add_mk]; exact wrN_rd w (by omega)
  · simp only [setS, add_mk]
    exact H _ ⟨Hp.size_setRow _ _ _ _, Fr.setRow (F := fun x => x = b) (Or.inl rfl) (Fr.refl _ h), own_setRow w, by rw [rd_setRow_at]; rfl⟩
/-- a part is written at its block -/
def writeGo (g : G) (off : Nat) (s : Txt) : Nat → Nat → TM → List Int → (TM × List Int) × Int
  | 0, _, T, R => ((T, R), 0)
  | k + 1, a, T, R => if s.length ≤ a then ((T, R), 0) else
    if (addM T g R ((off + a) / 512 : Nat)).2.2.2 ≠ 0 then (((addM T g R ((off + a) / 512 : Nat)).1, R), (addM T g R ((off + a) / 512 : Nat)).2.2.2) else
    if ((addM T g R ((off + a) / 512 : Nat)).1.read (addM T g R ((off + a) / 512 : Nat)).2.2.1).2 ≠ 0 then (((addM T g R ((off + a) / 512 : Nat)).1, R), ((addM T g R ((off + a) / 512 : Nat)).1.read (addM T g R ((off + a) / 512 : Nat)).2.2.1).2) else
    if ((addM T g R ((off + a) / 512 : Nat)).1.write (addM T g R ((off + a) / 512 : Nat)).2.2.1 (putU ((addM T g R ((off + a) / 512 : Nat)).1.read (addM T g R ((off + a) / 512 : Nat)).2.2.1).1 ((off + a) % 512) ((s.drop a).take (toP off s.length a - (off + a) % 512)))).2 ≠ 0 then
      ((((addM T g R ((off + a) / 512 : Nat)).1.write (addM T g R ((off + a) / 512 : Nat)).2.2.1 (putU ((addM T g R ((off + a) / 512 : Nat)).1.read (addM T g R ((off + a) / 512 : Nat)).2.2.1).1 ((off + a) % 512) ((s.drop a).take (toP off s.length a - (off + a) % 512)))).1, R), ((addM T g R ((off + a) / 512 : Nat)).1.write (addM T g R ((off + a) / 512 : Nat)).2.2.1 (putU ((addM T g R ((off + a) / 512 : Nat)).1.read (addM T g R ((off + a) / 512 : Nat)).2.2.1).1 ((off + a) % 512) ((s.drop a).take (toP off s.length a - (off + a) % 512)))).2) else
    writeGo g off s k (nextA off s.length a) ((addM T g R ((off + a) / 512 : Nat)).1.write (addM T g R ((off + a) / 512 : Nat)).2.2.1 (putU ((addM T g R ((off + a) / 512 : Nat)).1.read (addM T g R ((off + a) / 512 : Nat)).2.2.1).1 ((off + a) % 512) ((s.drop a).take (toP off s.length a - (off + a) % 512)))).1 (addM T g R ((off + a) / 512 : Nat)).2.1
theorem writeGo_end {g : G} {off a : Nat} {s : Txt} {T : TM} {R : List Int} (h : s.length ≤ a) : ∀ k, writeGo g off s k a T R = ((T, R), 0)
  | 0 => rfl
  | k + 1 => by unfold writeGo; rw [if_pos h]
/-- one part, step by step -/
theorem writeGo_add {g : G} {off k a : Nat} {s : Txt} {T T' : TM} {R R' : List Int} {v e : Int} (h : a < s.length) (ea : addM T g R ((off + a) / 512 : Nat) = (T', R', v, e)) : writeGo g off s (k + 1) a T R =
    if e ≠ 0 then ((T', R), e) else if (T'.read v).2 ≠ 0 then ((T', R), (T'.read v).2) else
    if (T'.write v (putU (T'.read v).1 ((off + a) % 512) ((s.drop a).take (toP off s.length a - (off + a) % 512)))).2 ≠ 0 then (((T'.write v (putU (T'.read v).1 ((off + a) % 512) ((s.drop a).take (toP off s.length a - (off + a) % 512)))).1, R), (T'.write v (putU (T'.read v).1 ((off + a) % 512) ((s.drop a).take (toP off s.length a - (off + a) % 512)))).2) else
    writeGo g off s k (nextA off s.length a) (T'.write v (putU (T'.read v).1 ((off + a) % 512) ((s.drop a).take (toP off s.length a - (off + a) % 512)))).1 R' := by
  conv => lhs; unfold writeGo
  rw [if_neg (by omega), ea]
def bodyW (T : TM) (g : G) (i : Int) (R : List Int) (off : Nat) (s : Txt) : TM × Int :=
  if (writeGo g off s s.length 0 T R).2 ≠ 0 then ((writeGo g off s s.length 0 T R).1.1, (writeGo g off s s.length 0 T R).2) else
    putM (writeGo g off s s.length 0 T R).1.1 g i ((writeGo g off s s.length 0 T R).1.2.set 2 (max ((writeGo g off s s.length 0 T R).1.2.getD 2 0) ((off + s.length : Nat) : Int)))
def writeF (T : TM) (g : G) (i off : Int) (s : Txt) : TM × Int := if off < 0 then (T, 1) else if (getF T g i).2 ≠ 0 then (T, (getF T g i).2) else if (s.length : Int) > 8459264 - off then (T, 120) else if s = [] then (T, 0) else
  undoM T (bodyW T g i (getF T g i).1 off.toNat s)
end Go.Proofs.YtcdpakjhjmchhaaGreatDoor.Fi
namespace Go.Proofs.YtcdpakjhjmchhaaGreatDoor.Bm
open Go Go.Proofs Go.Proofs.YtcdpakjhjmchhaaGreatDoor.Wx Go.Proofs.YtcdpakjhjmchhaaGreatDoor.Hp Go.Proofs.YtcdpakjhjmchhaaGreatDoor.W Go.Proofs.YtcdpakjhjmchhaaGreatDoor.Ad Go.Proofs.YtcdpakjhjmchhaaGreatDoor.Tm Go.Proofs.YtcdpakjhjmchhaaGreatDoor.Bt Go.Proofs.YtcdpakjhjmchhaaGreatDoor.Spc Go.Proofs.YtcdpakjhjmchhaaGreatDoor.Re Go.Proofs.YtcdpakjhjmchhaaGreatDoor.Av
/-- the map has just the indices where f is -/
structure Dom (f : Nat → Nat) (has : MapI) : Prop where
  nd : (has.map (·.1)).Nodup
  rng : ∀ p ∈ has, 0 ≤ p.1 ∧ p.1 < 16522
  at_ : ∀ k : Nat, k < 16522 → ((k : Int) ∈ has.map (·.1) ↔ f k ≠ 0)
theorem Dom.mem {f : Nat → Nat} {has : MapI} (a : Dom f has) {x : Int} : x ∈ has.map (·.1) ↔ ∃ k : Nat, k < 16522 ∧ x = k ∧ f k ≠ 0 := by
  constructor
  · intro h
    obtain ⟨p, hp, rfl⟩ := List.mem_map.mp h
    obtain ⟨h1, h2⟩ := a.rng p hp
    have e : ((p.1.toNat : Nat) : Int) = p.1 := by omega
    exact ⟨p.1.toNat, by omega, e.symm, (a.at_ _ (by omega)).mp (by rw [e]; exact h)⟩
  · rintro ⟨k, hk, rfl, h0⟩
    exact (a.at_ k hk).mpr h0
/-- a pair of a row -/
theorem rowN_fst {f : Nat → Nat} (m k : Nat) : ((rowN f k m).map (·.1)).Nodup := by
  have := rowN_lt (f := f) m k
  exact (List.Pairwise.map (S := fun a b : Int => a < b) _ (fun _ _ h => h) this).imp fun h => by omega
theorem Dom.len {f : Nat → Nat} {has : MapI} (a : Dom f has) : (rowN f 0 16522).length = has.length := by
  have h1 : ∀ x, x ∈ (rowN f 0 16522).map (·.1) ↔ x ∈ has.map (·.1) := fun x => by
    rw [a.mem]
    constructor
    · intro h
      obtain ⟨p, hp, rfl⟩ := List.mem_map.mp h
      obtain ⟨j, _, h2, h3, rfl⟩ := (mem_rowN 16522 0).mp hp
      exact ⟨j, by omega, rfl, h3⟩
    · rintro ⟨k, hk, rfl, h0⟩
      exact List.mem_map.mpr ⟨_, (mem_rowN 16522 0).mpr ⟨k, by omega, by omega, h0, rfl⟩, rfl⟩
  have a1 := nodup_len (rowN_fst (f := f) 16522 0) fun x hx => (h1 x).mp hx
  have a2 := nodup_len a.nd fun x hx => (h1 x).mpr hx
  rw [List.length_map, List.length_map] at a1 a2
  omega
/-- the tables' numbers -/
theorem tabN_add {f : Nat → Nat} : ∀ (a k b : Nat), tabN f k (a + b) = tabN f k a ++ tabN f (k + a) b
  | 0, k, b => by rw [Nat.zero_add]; rfl
  | a + 1, k, b => by
    rw [show a + 1 + b = (a + b) + 1 by omega]
    show (if f k = 0 then [] else _) ++ tabN f (k + 1) (a + b) = ((if f k = 0 then [] else _) ++ tabN f (k + 1) a) ++ _
    rw [tabN_add a (k + 1) b, List.append_assoc, show k + 1 + a = k + (a + 1) by omega]
theorem tabN_zero {f : Nat → Nat} : ∀ (m k : Nat), (∀ j, j < m → f (k + j) = 0) → tabN f k m = []
  | 0, _, _ => rfl
  | m + 1, k, h => by
    have h0 := h 0 (by omega)
    rw [Nat.add_zero] at h0
    show (if f k = 0 then [] else _) ++ tabN f (k + 1) m = []
    rw [if_pos h0, tabN_zero m (k + 1) fun j hj => by have := h (j + 1) (by omega); rwa [show k + (j + 1) = k + 1 + j by omega] at this]; rfl
theorem tabs_eq (Z : Nat → Txt) (R : List Int) : tabN (num Z R) 16522 1 ++ (tabN (num Z R) 16523 1 ++ if num Z R 16523 = 0 then [] else tabN (num Z R) 16524 128) = tabN (num Z R) 16522 130 := by
  rw [show 130 = 1 + (1 + 128) by rfl, tabN_add 1 16522, tabN_add 1 (16522 + 1)]
  congr 2
  split
  · rename_i h
    exact (tabN_zero 128 16524 fun j hj => sub_zero (q := 16523) (by decide) h _ (sub_two.mpr (.inr (.inr ⟨by omega, by unfold nS; omega⟩)))).symm
  · rfl
/-- the slots of tables that stand -/
def tabS (f : Nat → Nat) : Nat → Nat → List Nat
  | _, 0 => []
  | k, m + 1 => (if f k = 0 then [] else [k]) ++ tabS f (k + 1) m
theorem tabN_S {f : Nat → Nat} : ∀ (m k : Nat), tabN f k m = (tabS f k m).map fun s => ((f s : Nat) : Int)
  | 0, _ => rfl
  | m + 1, k => by
    show (if f k = 0 then [] else [((f k : Nat) : Int)]) ++ tabN f (k + 1) m = ((if f k = 0 then [] else [k]) ++ tabS f (k + 1) m).map _
    rw [List.map_append, tabN_S m (k + 1)]
    split <;> rfl
/-- a block's tables stand -/
theorem up_num {Z : Nat → Txt} {R : List Int} {k q : Nat} (hk : k < 16522) (h0 : num Z R k ≠ 0) (hq : q ∈ path k) (h2 : q < nS) : num Z R q ≠ 0 := fun hz => by
  rcases Nat.lt_or_ge q 16522 with h | h
  · rw [path_data hq h] at hz; exact h0 hz
  · obtain ⟨a, b⟩ := path_under hk hq h
    exact h0 (sub_zero h2 hz k (data_sub h h2 a b).1)
/-- slots that stand: the indices and the tables -/
theorem Dom.split {f : Nat → Nat} {has : MapI} (a : Dom f has) : cnt (fun s => decide (f s ≠ 0)) nS = has.length + (tabN f 16522 130).length := by
  have c1 : ∀ (m k : Nat) (p : Nat → Bool), (∀ s, p s = decide (f s ≠ 0)) → cnt p (k + m) = cnt p k + (tabS f k m).length := by
    intro m
    induction m with
    | zero => intro k p _; rfl
    | succ m ih =>
      intro k p hp
      have := ih (k + 1) p hp
      rw [show k + (m + 1) = k + 1 + m by omega, this]
      show cnt p k + (if p k = true then 1 else 0) + _ = cnt p k + ((if f k = 0 then [] else [k]) ++ tabS f (k + 1) m).length
      rw [List.length_append, hp k]
      by_cases h0 : f k = 0
      · rw [if_pos h0, if_neg (by rw [decide_eq_true_eq]; exact fun y => y h0)]; simp
      · rw [if_neg h0, if_pos (decide_eq_true h0)]; simp; omega
  have c2 : ∀ (m k : Nat), (rowN f k m).length = (tabS f k m).length := by
    intro m
    induction m with
    | zero => intro k; rfl
    | succ m ih =>
      intro k
      show ((if f k = 0 then [] else [(((k : Nat) : Int), ((f k : Nat) : Int))]) ++ rowN f (k + 1) m).length = ((if f k = 0 then [] else [k]) ++ tabS f (k + 1) m).length
      rw [List.length_append, List.length_append, ih]
      split <;> rfl
  have e1 := c1 130 16522 (fun s => decide (f s ≠ 0)) fun s => rfl
  have e2 := c1 16522 0 (fun s => decide (f s ≠ 0)) fun s => rfl
  have e3 : cnt (fun s => decide (f s ≠ 0)) 0 = 0 := rfl
  rw [Nat.zero_add, e3, Nat.zero_add] at e2
  unfold nS
  rw [show 16652 = 16522 + 130 by rfl, e1, e2, ← c2, a.len, tabN_S, List.length_map]
end Go.Proofs.YtcdpakjhjmchhaaGreatDoor.Bm
namespace Go.Proofs.YtcdpakjhjmchhaaGreatDoor.Bm
open Go Go.Proofs Go.Proofs.YtcdpakjhjmchhaaGreatDoor.Wx Go.Proofs.YtcdpakjhjmchhaaGreatDoor.Hp Go.Proofs.YtcdpakjhjmchhaaGreatDoor.W Go.Proofs.YtcdpakjhjmchhaaGreatDoor.Ad Go.Proofs.YtcdpakjhjmchhaaGreatDoor.Tm Go.Proofs.YtcdpakjhjmchhaaGreatDoor.Bt Go.Proofs.YtcdpakjhjmchhaaGreatDoor.Spc Go.Proofs.YtcdpakjhjmchhaaGreatDoor.Re Go.Proofs.YtcdpakjhjmchhaaGreatDoor.Av
/-- the tables of an index that has a block stand -/
theorem miss_zero {Z : Nat → Txt} {R : List Int} {k : Nat} (hk : k < 16522) (h0 : num Z R k ≠ 0) : miss Z R (path k) = 0 := by
  have : ∀ l : List Nat, (∀ s ∈ l, num Z R s ≠ 0) → miss Z R l = 0 := by
    intro l
    induction l with
    | nil => intro _; rfl
    | cons s l ih =>
      intro h
      show (if num Z R s = 0 then 1 else 0) + miss Z R l = 0
      rw [if_neg (h s (List.mem_cons_self ..)), ih fun x hx => h x (List.mem_cons_of_mem _ hx)]
  exact this _ fun s hs => up_num hk h0 hs (chain_nS (path_chain hk).1 s hs)
end Go.Proofs.YtcdpakjhjmchhaaGreatDoor.Bm
namespace Go.Proofs.YtcdpakjhjmchhaaGreatDoor.Fi
open Go Go.Proofs Go.Proofs.YtcdpakjhjmchhaaGreatDoor.Wx Go.Proofs.YtcdpakjhjmchhaaGreatDoor.Hp Go.Proofs.YtcdpakjhjmchhaaGreatDoor.W Go.Proofs.YtcdpakjhjmchhaaGreatDoor.Ad Go.Proofs.YtcdpakjhjmchhaaGreatDoor.Tm Go.Proofs.YtcdpakjhjmchhaaGreatDoor.Bt Go.Proofs.YtcdpakjhjmchhaaGreatDoor.Spc Go.Proofs.YtcdpakjhjmchhaaGreatDoor.Re Go.Proofs.YtcdpakjhjmchhaaGreatDoor.Av
open Go.Proofs.YtcdpakjhjmchhaaGreatDoor.Hd (ints)
open Go.Proofs.YtcdpakjhjmchhaaGreatDoor.In (Glo ints_length ints_one mayR decA encR encR_length decOk getR_enc z15)
open Go.Proofs.YtcdpakjhjmchhaaGreatDoor.Ino (getM putM Cok getM_length rblk rat)
open Go.Proofs.YtcdpakjhjmchhaaGreatDoor.Bm (findM cutM addM allM num num4 nS Wf Tight path Added find_ok add_ok num_congr path_self path_chain chain_nS path_data miss_zero many miss par)
def blkZ (n k : Nat) : Nat := (geoN n).inodes + k / 8
def recZ (n : Nat) (Z : Nat → Txt) (k : Nat) : List Int × Int := decA (((Z (blkZ n k)).drop (64 * (k % 8))).take 64)
theorem blkZ_rng {n k : Nat} (d : Dim n) (h : k < (geoN n).count) : (geoN n).inodes ≤ blkZ n k ∧ blkZ n k < (geoN n).data ∧ blkZ n k < n ∧ 98 ≤ blkZ n k := by
  have hd := d.data
  have e : (geoN n).count = 8 * (n / 64) := rfl
  have e2 : (geoN n).data = 98 + (n + 4095) / 4096 + n / 64 := rfl
  have e3 : (geoN n).inodes = 98 + (n + 4095) / 4096 := rfl
  unfold blkZ
  omega
theorem part64 {b z : Txt} {o q : Nat} (hz : z.length = 64) (hb : b.length = 512) (ho : o < 8) (hq : q < 8) : ((putU b (64 * o) z).drop (64 * q)).take 64 = if q = o then z else (b.drop (64 * q)).take 64 := by
  unfold putU
  have l1 : (b.take (64 * o)).length = 64 * o := by rw [List.length_take]; omega
  by_cases h : q = o
  · rw [if_pos h, h, List.append_assoc, List.drop_append_of_le_length (by omega), List.drop_of_length_le (by omega), List.nil_append, List.take_append_of_le_length (by omega), List.take_of_length_le (by omega)]
  · rw [if_neg h]
    rcases Nat.lt_or_ge q o with h1 | h1
    · rw [List.append_assoc, List.drop_append_of_le_length (by omega), List.take_append_of_le_length (by rw [List.length_drop]; omega), List.drop_take, List.take_take, Nat.min_eq_left (by omega)]
    · have l2 : (b.take (64 * o) ++ z).length = 64 * o + 64 := by rw [List.length_append]; omega
      rw [List.drop_append, List.drop_of_length_le (by omega), List.nil_append, List.drop_drop, l2, hz, show 64 * o + 64 + (64 * q - (64 * o + 64)) = 64 * q by omega]
theorem decA_enc {P : List Int} (hP : P.length = 15) (hm : mayR P = true) : decA (encR P) = (P, 0) := by
  obtain ⟨e1, e2⟩ := getR_enc hP hm
  have : decOk (encR P) = true := by rw [decOk, e1, e2, hm]; rfl
  rw [decA, if_neg (by rw [encR_length hP]; decide), if_pos this, e1]
theorem getM_at {n k : Nat} {Z : Nat → Txt} {T : TM} (a : Av n Z T) (d : Dim n) (h1 : 1 ≤ k) (h2 : k < (geoN n).count) : getM T (geoN n) k = recZ n Z k := by
  have r := blkZ_rng d h2
  have e : rblk (geoN n) (k : Int) = ((blkZ n k : Nat) : Int) := rfl
  unfold getM
  rw [if_neg (fun y => y ⟨by omega, by omega⟩), e, a.z _ r.2.2.1, if_neg (fun y => y rfl)]
  rfl
theorem putM_at {n k : Nat} {Z : Nat → Txt} {T : TM} {R : List Int} (a : Av n Z T) (d : Dim n) (h1 : 1 ≤ k) (h2 : k < (geoN n).count) (hm : mayR R = true) :
    putM T (geoN n) k R = T.write (blkZ n k : Nat) (putU (Z (blkZ n k)) (64 * (k % 8)) (encR R)) := by
  have r := blkZ_rng d h2
  have e : rblk (geoN n) (k : Int) = ((blkZ n k : Nat) : Int) := rfl
  unfold putM
  rw [if_neg (fun y => y ⟨by omega, by omega⟩), if_neg (by rw [hm]; simp), e, a.z _ r.2.2.1, if_neg (fun y => y rfl)]
  rfl
/-- what the records are when one is put -/
theorem recZ_put {n i k : Nat} {Z : Nat → Txt} {R : List Int} (hR : R.length = 15) (hm : mayR R = true) (hl : (Z (blkZ n i)).length = 512) : recZ n (up Z (blkZ n i) (putU (Z (blkZ n i)) (64 * (i % 8)) (encR R))) k = if k = i then (R, 0) else recZ n Z k := by
  have le := encR_length hR
  unfold recZ
  by_cases hb : blkZ n k = blkZ n i
  · rw [hb, up_at, part64 le hl (by omega) (by omega)]
    by_cases hk : k = i
    · rw [if_pos (by rw [hk]), if_pos hk]; exact decA_enc hR hm
    · have : ¬ k % 8 = i % 8 := fun y => by unfold blkZ at hb; omega
      rw [if_neg this, if_neg hk]
  · rw [up_ne _ _ hb, if_neg (fun y => hb (by rw [y]))]
def pc (Z : Nat → Txt) (R : List Int) (k : Nat) : Txt := if num Z R k = 0 then zeros else Z (num Z R k)
def byteAt (Z : Nat → Txt) (R : List Int) (q : Nat) : UInt8 := (pc Z R (q / 512)).getD (q % 512) 0
theorem pc_len {n k : Nat} {Z : Nat → Txt} {R : List Int} {T : TM} (a : Av n Z T) (w : Wf n Z R) (hk : k < nS) : (pc Z R k).length = 512 := by
  unfold pc
  split
  · exact List.length_replicate
  · rename_i h; exact a.len _ (w.rng k hk h).2.1
theorem blockM_ok {n k : Nat} {Z : Nat → Txt} {R : List Int} {T : TM} (a : Av n Z T) (w : Wf n Z R) (hk : k < 16522) : blockM T (geoN n) R k = (pc Z R k, 0) := by
  unfold blockM pc
  rw [find_ok a w hk, if_neg (fun y => y rfl)]
  by_cases h : num Z R k = 0
  · rw [if_pos (by show ((num Z R k : Nat) : Int) = 0; omega), if_pos h]
  · rw [if_neg (by show ¬ ((num Z R k : Nat) : Int) = 0; omega), if_neg h]
    exact a.z _ (w.rng k (by unfold nS; omega) h).2.1
theorem readGo_ok {n off m : Nat} {Z : Nat → Txt} {R : List Int} {T : TM} (a : Av n Z T) (w : Wf n Z R) (ho : off + m ≤ 8459264) : ∀ (k b : Nat) (s : Txt), m ≤ b + k → b ≤ m → s = (List.range b).map (fun i => byteAt Z R (off + i)) → readGo T (geoN n) R off m k b s = ((List.range m).map (fun i => byteAt Z R (off + i)), 0)
  | 0, b, s, h1, h2, h3 => by
    have : b = m := by omega
    subst this
    rw [h3]; rfl
  | k + 1, b, s, h1, h2, h3 => by
    unfold readGo
    by_cases hb : m ≤ b
    · have : b = m := by omega
      subst this
      rw [if_pos hb, h3]
    · have hk : (off + b) / 512 < 16522 := by omega
      rw [if_neg hb, blockM_ok a w hk, if_neg (fun y => y rfl)]
      obtain ⟨n1, n2⟩ := nextA_gt (off := off) (show b < m by omega)
      obtain ⟨t1, t2⟩ := toP_gt (off := off) (show b < m by omega)
      refine readGo_ok a w ho k _ _ (by omega) n2 ?_
      have lp := pc_len a w (k := (off + b) / 512) (by unfold nS; omega)
      refine List.ext_getElem ?_ fun i i1 i2 => ?_
      · rw [List.length_append, h3, List.length_map, List.length_range, List.length_take, List.length_drop, lp, List.length_map, List.length_range]
        unfold nextA; omega
      · rw [List.getElem_map, List.getElem_range]
        rw [List.length_map, List.length_range] at i2
        have ls : s.length = b := by rw [h3, List.length_map, List.length_range]
        by_cases hi : i < b
        · rw [List.getElem_append_left (by omega)]
          simp only [h3, List.getElem_map, List.getElem_range]
        · rw [List.getElem_append_right (by omega), List.getElem_take, List.getElem_drop]
          unfold nextA at i2
          unfold byteAt
          have e1 : (off + i) / 512 = (off + b) / 512 := by omega
          have e2 : (off + i) % 512 = (off + b) % 512 + (i - b) := by omega
          rw [e1, e2, List.getD_eq_getElem?_getD, List.getElem?_eq_getElem (by omega)]
          simp only [ls]; rfl
structure Gr (n : Nat) (Z : Nat → Txt) (R : List Int) (Z' : Nat → Txt) (R' : List Int) (ps : List Nat) : Prop where
  w : Wf n Z' R'
  tg : Tight Z' R'
  keep : ∀ s, s < nS → num Z R s ≠ 0 → num Z' R' s = num Z R s
  dom : ∀ s, s < nS → (num Z' R' s ≠ 0 ↔ num Z R s ≠ 0 ∨ ∃ k ∈ ps, s ∈ path k)
  new : ∀ s, s < nS → num Z R s = 0 → num Z' R' s ≠ 0 → bit Z (num Z' R' s) = false
  bits : ∀ j, j < n → (bit Z' j = true ↔ bit Z j = true ∨ ∃ s, s < nS ∧ num Z R s = 0 ∧ num Z' R' s ≠ 0 ∧ num Z' R' s = j)
  head : ∀ i, i < 3 → R'.getD i 0 = R.getD i 0
  cont : ∀ b, b < n → (geoN n).inodes ≤ b → (b < (geoN n).data ∨ bit Z b = true) → (∀ s, s < nS → num Z' R' s ≠ 0 → b ≠ num Z' R' s) → Z' b = Z b
  tot : frees n Z' + many Z' R' = frees n Z + many Z R
theorem Gr.refl {n : Nat} {Z : Nat → Txt} {R : List Int} (w : Wf n Z R) (tg : Tight Z R) : Gr n Z R Z R [] :=
  ⟨w, tg, fun _ _ _ => rfl, fun s _ => ⟨.inl, fun y => y.elim id fun ⟨k, hk, _⟩ => by cases hk⟩, fun s _ h0 h1 => absurd h0 h1, fun j _ => ⟨.inl, fun y => y.elim id fun ⟨s, _, h0, h1, _⟩ => absurd h0 h1⟩, fun _ _ => rfl, fun _ _ _ _ _ => rfl, rfl⟩
theorem Added.keep {n k : Nat} {Z Z' : Nat → Txt} {R R' : List Int} (a : Added n Z R none (path k) Z' R') {s : Nat} (hs : s < nS) (h0 : num Z R s ≠ 0) : num Z' R' s = num Z R s := by
  by_cases h : s ∈ path k
  · exact a.old s h h0
  · exact a.off s hs h
theorem Gr.add {n k : Nat} {Z Z1 Z2 : Nat → Txt} {R R1 R2 : List Int} {ps : List Nat} (g : Gr n Z R Z1 R1 ps) (hk : k < 16522) (a : Added n Z1 R1 none (path k) Z2 R2) : Gr n Z R Z2 R2 (k :: ps) := by
  have kp := fun {s : Nat} (hs : s < nS) h0 => Added.keep a hs h0
  have z0 : ∀ s, s < nS → num Z1 R1 s = 0 → num Z R s = 0 := fun s hs h => Classical.byContradiction fun y => by rw [g.keep s hs y] at h; exact y h
  have pn := chain_nS (path_chain hk).1
  refine ⟨a.w, a.tight hk g.tg, fun s hs h0 => ?_, fun s hs => ?_, fun s hs h0 h2 => ?_, fun j hj => ?_, fun i hi => (a.head i hi).trans (g.head i hi), fun b h1 h2 h3 h4 => ?_, ?_⟩
  · have := g.keep s hs h0
    rw [kp hs (by rw [this]; exact h0), this]
  · have e : num Z2 R2 s ≠ 0 ↔ num Z1 R1 s ≠ 0 ∨ s ∈ path k := by
      constructor
      · intro h
        by_cases hp : s ∈ path k
        · exact .inr hp
        · rw [a.off s hs hp] at h; exact .inl h
      · rintro (h | h)
        · rw [kp hs h]; exact h
        · exact a.got s h
    rw [e, g.dom s hs]
    constructor
    · rintro ((h | ⟨x, hx, h⟩) | h)
      · exact .inl h
      · exact .inr ⟨x, List.mem_cons_of_mem _ hx, h⟩
      · exact .inr ⟨k, List.mem_cons_self .., h⟩
    · rintro (h | ⟨x, hx, h⟩)
      · exact .inl (.inl h)
      · rcases List.mem_cons.mp hx with rfl | hx
        · exact .inr h
        · exact .inl (.inr ⟨x, hx, h⟩)
  · by_cases h1 : num Z1 R1 s = 0
    · have hp : s ∈ path k := Classical.byContradiction fun y => by rw [a.off s hs y] at h2; exact h2 h1
      have hb := a.new s hp h1
      cases hz : bit Z (num Z2 R2 s) with
      | false => rfl
      | true => rw [(g.bits _ (a.w.rng s hs h2).2.1).mpr (.inl hz)] at hb; cases hb
    · rw [kp hs h1]; exact g.new s hs h0 h1
  · constructor
    · intro h
      rcases a.ex j hj h with h | ⟨s, hp, h1, h2⟩
      · rcases (g.bits j hj).mp h with h | ⟨s, hs, h0, h1, h2⟩
        · exact .inl h
        · exact .inr ⟨s, hs, h0, by rw [kp hs h1]; exact h1, by rw [kp hs h1]; exact h2⟩
      · exact .inr ⟨s, pn s hp, z0 s (pn s hp) h1, a.got s hp, h2⟩
    · rintro (h | ⟨s, hs, h0, h1, h2⟩)
      · exact a.bits j hj ((g.bits j hj).mpr (.inl h))
      · rw [← h2]; exact (a.w.rng s hs h1).2.2
  · rw [a.cont b h1 h2 (h3.imp id fun y => (g.bits b h1).mpr (.inl y)) (fun q hq => h4 q (pn q hq) (a.got q hq)) fun q e => by cases e]
    exact g.cont b h1 h2 h3 fun s hs h => by
      have := kp hs h
      rw [← this]
      exact h4 s hs (by rw [this]; exact h)
  · have h1 := a.many
    have h2 := a.frees
    have h3 := g.tot
    omega
/-- numbers stay when a data block is written -/
theorem num_up {n k : Nat} {Z : Nat → Txt} {R : List Int} {bs : Txt} (w : Wf n Z R) (hk : k < 16522) (h0 : num Z R k ≠ 0) : ∀ s, s < nS → num (up Z (num Z R k) bs) R s = num Z R s :=
  num_congr (fun _ _ _ => rfl) fun q h1 h2 h3 p _ => by
    rw [up_ne _ _ fun e => by have := w.inj q k h2 (by unfold nS; omega) h3 e; omega]
theorem bit_data {n v j : Nat} {Z : Nat → Txt} {bs : Txt} (d : Dim n) (hv : (geoN n).data ≤ v) (hj : j < n) : bit (up Z v bs) j = bit Z j := by
  have := d.map hj
  exact bit_up (by omega)
theorem Wf.up {n k : Nat} {Z : Nat → Txt} {R : List Int} {bs : Txt} (d : Dim n) (w : Wf n Z R) (hk : k < 16522) (h0 : num Z R k ≠ 0) : Wf n (up Z (num Z R k) bs) R := by
  have N := num_up (bs := bs) w hk h0
  have r := w.rng k (by unfold nS; omega) h0
  refine ⟨w.rl, w.rr, fun s hs h => ?_, fun s s' hs hs' h e => ?_⟩
  · rw [N s hs] at h ⊢
    obtain ⟨a, b, c⟩ := w.rng s hs h
    exact ⟨a, b, by rw [bit_data d r.1 b]; exact c⟩
  · rw [N s hs] at h e
    rw [N s' hs'] at e
    exact w.inj s s' hs hs' h e
theorem Gr.put {n k : Nat} {Z Z1 : Nat → Txt} {R R1 : List Int} {ps : List Nat} (d : Dim n) (g : Gr n Z R Z1 R1 ps) (hk : k < 16522) (h0 : num Z1 R1 k ≠ 0) (bs : Txt) : Gr n Z R (up Z1 (num Z1 R1 k) bs) R1 ps := by
  have N := num_up (bs := bs) g.w hk h0
  have hkn : k < nS := by unfold nS; omega
  have r := g.w.rng k hkn h0
  have eb : ∀ j, j < n → bit (up Z1 (num Z1 R1 k) bs) j = bit Z1 j := fun j hj => bit_data d r.1 hj
  refine ⟨Wf.up d g.w hk h0, fun q h1 h2 h => ?_, fun s hs h => by rw [N s hs]; exact g.keep s hs h, fun s hs => by rw [N s hs]; exact g.dom s hs, fun s hs h1 h2 => ?_, fun j hj => ?_, g.head, fun b h1 h2 h3 h4 => ?_, ?_⟩
  · rw [N q h2] at h
    obtain ⟨x, a, b, c⟩ := g.tg q h1 h2 h
    exact ⟨x, a, b, by rw [N x (by have := (Bm.data_sub h1 h2 a b).2; unfold nS; omega)]; exact c⟩
  · rw [N s hs] at h2 ⊢
    exact g.new s hs h1 h2
  · rw [eb j hj, g.bits j hj]
    constructor
    · rintro (h | ⟨s, hs, a, b, c⟩)
      · exact .inl h
      · exact .inr ⟨s, hs, a, by rw [N s hs]; exact b, by rw [N s hs]; exact c⟩
    · rintro (h | ⟨s, hs, a, b, c⟩)
      · exact .inl h
      · rw [N s hs] at b c
        exact .inr ⟨s, hs, a, b, c⟩
  · have hne : b ≠ num Z1 R1 k := by have := h4 k hkn (by rw [N k hkn]; exact h0); rw [N k hkn] at this; exact this
    rw [up_ne _ _ hne]
    exact g.cont b h1 h2 h3 fun s hs h => by
      have := h4 s hs (by rw [N s hs]; exact h)
      rw [N s hs] at this; exact this
  · have e1 : many (up Z1 (num Z1 R1 k) bs) R1 = many Z1 R1 := by
      unfold many
      exact cnt_congr fun s hs => by rw [N s hs]
    have e2 : frees n (up Z1 (num Z1 R1 k) bs) = frees n Z1 := by
      unfold frees
      exact cnt_congr fun j hj => by unfold isFree; rw [eb j hj]
    rw [e1, e2]; exact g.tot
theorem pc_add {n k : Nat} {Z Z' : Nat → Txt} {R R' : List Int} (w : Wf n Z R) (a : Added n Z R none (path k) Z' R') (hk : k < 16522) {x : Nat} (hx : x < 16522) : pc Z' R' x = pc Z R x := by
  have hxn : x < nS := by unfold nS; omega
  have hkn : k < nS := by unfold nS; omega
  by_cases hm : num Z R k = 0
  · unfold pc
    by_cases e : x = k
    · subst e
      rw [if_neg (a.got x (path_self x)), if_pos hm]
      exact a.zero x (path_self x) hx hm
    · have en := a.data hx e
      rw [en]
      split
      · rfl
      · rename_i h
        have r := w.rng x hxn h
        refine a.cont _ r.2.1 ?_ (.inr r.2.2) (fun q hq y => ?_) fun q y => by cases y
        · have : (geoN n).inodes ≤ (geoN n).data := Nat.le_add_right _ _
          omega
        · rw [← en] at y
          have hqn := chain_nS (path_chain hk).1 q hq
          have := a.w.inj x q hxn hqn (by rw [en]; exact h) y
          subst this
          exact e (path_data hq hx)
  · obtain ⟨e1, e2⟩ := a.same (miss_zero hk hm)
    rw [e1, e2]
theorem pc_up {n k : Nat} {Z : Nat → Txt} {R : List Int} {bs : Txt} (w : Wf n Z R) (hk : k < 16522) (h0 : num Z R k ≠ 0) {x : Nat} (hx : x < 16522) : pc (up Z (num Z R k) bs) R x = if x = k then bs else pc Z R x := by
  have hxn : x < nS := by unfold nS; omega
  have hkn : k < nS := by unfold nS; omega
  have N := num_up (bs := bs) w hk h0
  unfold pc
  rw [N x hxn]
  by_cases e : x = k
  · subst e
    rw [if_neg h0, if_pos rfl, up_at]
  · rw [if_neg e]
    split
    · rfl
    · rename_i h
      rw [up_ne _ _ fun y => e (w.inj x k hxn hkn h y)]
end Go.Proofs.YtcdpakjhjmchhaaGreatDoor.Fi
namespace Go.Proofs.YtcdpakjhjmchhaaGreatDoor.Fi
open Go Go.Proofs Go.Proofs.YtcdpakjhjmchhaaGreatDoor.Wx Go.Proofs.YtcdpakjhjmchhaaGreatDoor.Hp Go.Proofs.YtcdpakjhjmchhaaGreatDoor.W Go.Proofs.YtcdpakjhjmchhaaGreatDoor.Ad Go.Proofs.YtcdpakjhjmchhaaGreatDoor.Tm Go.Proofs.YtcdpakjhjmchhaaGreatDoor.Bt Go.Proofs.YtcdpakjhjmchhaaGreatDoor.Spc Go.Proofs.YtcdpakjhjmchhaaGreatDoor.Re Go.Proofs.YtcdpakjhjmchhaaGreatDoor.Av
open Go.Proofs.YtcdpakjhjmchhaaGreatDoor.Hd (ints)
open Go.Proofs.YtcdpakjhjmchhaaGreatDoor.In (Glo ints_length ints_one mayR decA encR encR_length decOk getR_enc z15)
open Go.Proofs.YtcdpakjhjmchhaaGreatDoor.Ino (getM putM Cok getM_length rblk rat)
open Go.Proofs.YtcdpakjhjmchhaaGreatDoor.Bm (findM cutM addM allM num num4 nS Wf Tight path Added find_ok add_ok num_congr path_self path_chain chain_nS path_data miss_zero many miss par walkA_ok)
theorem add_ext {n k : Nat} {Z : Nat → Txt} {R : List Int} {T T0 : TM} (d : Dim n) (a : Av n Z T) (w : Wf n Z R) (hk : k < 16522) (e0 : Ext T0 T) : Ext T0 (addM T (geoN n) R k).1 := by
  obtain ⟨c, e⟩ := path_chain hk
  unfold addM
  rw [if_neg (by omega), Int.toNat_natCast, ← e]
  have x0 := (walkA_ok d (path k) none Z T T R a w c (fun q y => by cases y) (Ext.refl T)).2
  have x1 := (walkA_ok d (path k) none Z T T0 R a w c (fun q y => by cases y) e0).2
  have ea : Bm.at_ Z R none = 0 := rfl
  rw [ea] at x0 x1
  split
  · show Ext T0 (TM.back _ _).1
    rw [x0.back a.live]; exact e0
  · exact x1
/-- between the parts -/
structure Ws (n : Nat) (T0 : TM) (Z : Nat → Txt) (R : List Int) (off : Nat) (s : Txt) (a : Nat) (T1 : TM) (Z1 : Nat → Txt) (R1 : List Int) (ps : List Nat) : Prop where
  av : Av n Z1 T1
  gr : Gr n Z R Z1 R1 ps
  ext : Ext T0 T1
  byt : ∀ q, q < 8459264 → byteAt Z1 R1 q = if off ≤ q ∧ q < off + a then s.getD (q - off) 0 else byteAt Z R q
  kin : ∀ x ∈ ks T1, x ∈ ks T0 ∨ x < (geoN n).inodes ∨ ∃ q, q < nS ∧ (∃ k ∈ ps, q ∈ path k) ∧ x = ((num Z1 R1 q : Nat) : Int)
  idx : ∀ k, k ∈ ps ↔ ∃ b, b < a ∧ k = (off + b) / 512
theorem Ws.zero {n off : Nat} {T : TM} {Z : Nat → Txt} {R : List Int} {s : Txt} (a : Av n Z T) (w : Wf n Z R) (tg : Tight Z R) : Ws n T Z R off s 0 T Z R [] :=
  ⟨a, Gr.refl w tg, Ext.refl T, fun q _ => by rw [if_neg (by omega)], fun x hx => .inl hx, fun k => ⟨fun h => (by cases h), fun ⟨b, h, _⟩ => absurd h (Nat.not_lt_zero _)⟩⟩
inductive Wo (n : Nat) (T0 : TM) (Z : Nat → Txt) (R : List Int) (off : Nat) (s : Txt) (res : (TM × List Int) × Int) : Prop where
  | ok (Z2 : Nat → Txt) (ps : List Nat) : res.2 = 0 → Ws n T0 Z R off s s.length res.1.1 Z2 res.1.2 ps → Wo n T0 Z R off s res
  | full (T1 : TM) (Z1 : Nat → Txt) (R1 : List Int) (ps : List Nat) (a : Nat) : res.2 = 60 → Ext T0 res.1.1 → a < s.length → Ws n T0 Z R off s a T1 Z1 R1 ps → 87 ≤ (ks T1).length → Wo n T0 Z R off s res
  | none_ (T1 : TM) (Z1 : Nat → Txt) (R1 : List Int) (ps : List Nat) (a : Nat) : res.2 = 90 → Ext T0 res.1.1 → a < s.length → Ws n T0 Z R off s a T1 Z1 R1 ps → frees n Z1 < miss Z1 R1 (path ((off + a) / 512)) → Wo n T0 Z R off s res
theorem writeGo_ok {n off : Nat} {T0 : TM} {Z : Nat → Txt} {R : List Int} {s : Txt} (d : Dim n) (ho : off + s.length ≤ 8459264) : ∀ (k a : Nat) (T1 : TM) (Z1 : Nat → Txt) (R1 : List Int) (ps : List Nat), s.length ≤ a + k → a ≤ s.length → Ws n T0 Z R off s a T1 Z1 R1 ps →
    Wo n T0 Z R off s (writeGo (geoN n) off s k a T1 R1)
  | 0, a, T1, Z1, R1, ps, h1, h2, W => by
    have : a = s.length := by omega
    subst this
    exact .ok Z1 ps rfl W
  | k + 1, a, T1, Z1, R1, ps, h1, h2, W => by
    by_cases hb : s.length ≤ a
    · have : a = s.length := by omega
      subst this
      rw [writeGo_end hb]
      exact .ok Z1 ps rfl W
    have ha : a < s.length := by omega
    have hk : (off + a) / 512 < 16522 := by omega
    have hkn : (off + a) / 512 < nS := by unfold nS; omega
    have x2 := add_ext d W.av W.gr.w hk W.ext
    obtain ⟨n1, n2⟩ := nextA_gt (off := off) ha
    obtain ⟨t1, t2⟩ := toP_gt (off := off) ha
    rcases add_ok d W.av W.gr.w hk with ⟨e, hf⟩ | ⟨e, hf⟩ | ⟨T2, R2, Z2, e, av2, ad, nf, kk, km, kn⟩
    · rw [e] at x2
      rw [writeGo_add ha e, if_pos (by decide)]
      exact .full T1 Z1 R1 ps a rfl x2 ha W (by omega)
    · rw [e] at x2
      rw [writeGo_add ha e, if_pos (by decide)]
      exact .none_ T1 Z1 R1 ps a rfl x2 ha W hf
    · rw [e] at x2
      have x2 : Ext T0 T2 := x2
      have g2 := W.gr.add hk ad
      have h0 : num Z2 R2 ((off + a) / 512) ≠ 0 := ad.got _ (path_self _)
      have r2 := ad.w.rng _ hkn h0
      have hd := d.data
      have er := av2.z _ r2.2.1
      have lz := av2.len _ r2.2.1
      have e2 : pc Z2 R2 ((off + a) / 512) = Z2 (num Z2 R2 ((off + a) / 512)) := by unfold pc; rw [if_neg h0]
      rw [writeGo_add ha e, if_neg (fun y => y rfl), er, if_neg (fun y => y rfl)]
      have lnew : ((s.drop a).take (toP off s.length a - (off + a) % 512)).length = toP off s.length a - (off + a) % 512 := by
        rw [List.length_take, List.length_drop]; unfold toP; omega
      have lp : (putU (Z2 (num Z2 R2 ((off + a) / 512))) ((off + a) % 512) ((s.drop a).take (toP off s.length a - (off + a) % 512))).length = 512 := by
        rw [putU_length (by rw [lnew, lz]; omega), lz]
      have h98 : 98 ≤ num Z2 R2 ((off + a) / 512) := by omega
      rcases av2.write_full h98 r2.2.1 lp with hw | ⟨hw, h96, hni⟩
      · have av3 := av2.write h98 r2.2.1 lp hw
        have x3 := x2.write ((num Z2 R2 ((off + a) / 512) : Nat) : Int) (putU (Z2 (num Z2 R2 ((off + a) / 512))) ((off + a) % 512) ((s.drop a).take (toP off s.length a - (off + a) % 512)))
        have kw := write_keys hw
        rw [if_neg (fun y => y hw)]
        refine writeGo_ok d ho k _ _ _ _ ((off + a) / 512 :: ps) (by omega) n2 ⟨av3, g2.put d hk h0 _, x3, fun q hq => ?_, fun x hx => ?_, fun j => ?_⟩
        · have hx : q / 512 < 16522 := by omega
          have lZ := pc_len W.av W.gr.w (k := (off + a) / 512) hkn
          have ep : pc Z2 R2 ((off + a) / 512) = pc Z1 R1 ((off + a) / 512) := pc_add W.gr.w ad hk hk
          unfold byteAt
          rw [pc_up ad.w hk h0 hx]
          have ob := W.byt q hq
          unfold byteAt at ob
          by_cases hq2 : q / 512 = (off + a) / 512
          · rw [if_pos hq2, ← e2, ep]
            rw [hq2] at ob
            have lo : ((pc Z1 R1 ((off + a) / 512)).take ((off + a) % 512)).length = (off + a) % 512 := by rw [List.length_take]; omega
            unfold putU
            rw [lnew, List.getD_eq_getElem?_getD, List.append_assoc]
            unfold nextA
            by_cases c1 : q % 512 < (off + a) % 512
            · rw [List.getElem?_append_left (by omega), List.getElem?_take_of_lt c1, ← List.getD_eq_getElem?_getD, ob]
              by_cases c2 : off ≤ q ∧ q < off + a
              · rw [if_pos c2, if_pos (by omega)]
              · rw [if_neg c2, if_neg (by omega)]
                rw [hq2]
            · rw [List.getElem?_append_right (by omega), lo]
              by_cases c2 : q % 512 < toP off s.length a
              · rw [List.getElem?_append_left (by omega), List.getElem?_take_of_lt (by omega), List.getElem?_drop, ← List.getD_eq_getElem?_getD, if_pos (by omega)]
                congr 1; omega
              · rw [List.getElem?_append_right (by omega), lnew, List.getElem?_drop, show (off + a) % 512 + (toP off s.length a - (off + a) % 512) + (q % 512 - (off + a) % 512 - (toP off s.length a - (off + a) % 512)) = q % 512 by omega, ← List.getD_eq_getElem?_getD, ob, if_neg (by omega), if_neg (by omega)]
                rw [hq2]
          · rw [if_neg hq2, pc_add W.gr.w ad hk hx, ob]
            have hr : ∀ m, q < off + m → a ≤ m → m ≤ nextA off s.length a → off ≤ q → q < off + a := fun m c1 c2 c3 c4 => by
              unfold nextA at c3
              unfold toP at c3
              omega
            by_cases c1 : off ≤ q ∧ q < off + a
            · rw [if_pos c1, if_pos (by omega)]
            · rw [if_neg c1, if_neg (fun y => c1 ⟨y.1, hr _ y.2 (by omega) (Nat.le_refl _) y.1⟩)]
        · have N := num_up (bs := putU (Z2 (num Z2 R2 ((off + a) / 512))) ((off + a) % 512) ((s.drop a).take (toP off s.length a - (off + a) % 512))) ad.w hk h0
          have own : ∀ q, q < nS → (∃ k ∈ (off + a) / 512 :: ps, q ∈ path k) → x = ((num Z2 R2 q : Nat) : Int) → ∃ q, q < nS ∧ (∃ k ∈ (off + a) / 512 :: ps, q ∈ path k) ∧ x = ((num (up Z2 (num Z2 R2 ((off + a) / 512)) (putU (Z2 (num Z2 R2 ((off + a) / 512))) ((off + a) % 512) ((s.drop a).take (toP off s.length a - (off + a) % 512)))) R2 q : Nat) : Int) := fun q hq hp ex => ⟨q, hq, hp, by rw [N q hq]; exact ex⟩
          rcases (kw x).mp hx with hx | hx
          · rcases kk x hx with h | h | ⟨q, hq, ex⟩
            · rcases W.kin x h with h | h | ⟨q, hq, ⟨k', hk', hp⟩, ex⟩
              · exact .inl h
              · exact .inr (.inl h)
              · have hz : num Z1 R1 q ≠ 0 := (W.gr.dom q hq).mpr (.inr ⟨k', hk', hp⟩)
                exact .inr (.inr (own q hq ⟨k', List.mem_cons_of_mem _ hk', hp⟩ (by rw [Added.keep ad hq hz]; exact ex)))
            · exact .inr (.inl h)
            · exact .inr (.inr (own q (chain_nS (path_chain hk).1 q hq) ⟨_, List.mem_cons_self .., hq⟩ ex))
          · exact .inr (.inr (own _ hkn ⟨_, List.mem_cons_self .., path_self _⟩ hx))
        · rw [List.mem_cons, W.idx j]
          constructor
          · rintro (rfl | ⟨b, hb, rfl⟩)
            · exact ⟨a, n1, rfl⟩
            · exact ⟨b, by omega, rfl⟩
          · rintro ⟨b, hb, rfl⟩
            rcases Nat.lt_or_ge b a with c | c
            · exact .inr ⟨b, c, rfl⟩
            · left
              unfold nextA at hb
              unfold toP at hb
              omega
      · rw [if_pos (by rw [hw]; show (60 : Int) ≠ 0; decide)]
        refine .full T1 Z1 R1 ps a (by rw [hw]) (by rw [hw]; exact x2) ha W ?_
        by_cases hm : num Z1 R1 ((off + a) / 512) = 0
        · exact absurd (kn _ (path_self _) hm) hni
        · rw [nf (miss_zero hk hm)] at h96; omega
end Go.Proofs.YtcdpakjhjmchhaaGreatDoor.Fi
namespace Go.Proofs.YtcdpakjhjmchhaaGreatDoor.Fi
open Go Go.Proofs Go.Proofs.YtcdpakjhjmchhaaGreatDoor.Wx Go.Proofs.YtcdpakjhjmchhaaGreatDoor.Hp Go.Proofs.YtcdpakjhjmchhaaGreatDoor.W Go.Proofs.YtcdpakjhjmchhaaGreatDoor.Ad Go.Proofs.YtcdpakjhjmchhaaGreatDoor.Tm Go.Proofs.YtcdpakjhjmchhaaGreatDoor.Bt Go.Proofs.YtcdpakjhjmchhaaGreatDoor.Spc Go.Proofs.YtcdpakjhjmchhaaGreatDoor.Re Go.Proofs.YtcdpakjhjmchhaaGreatDoor.Av
open Go.Proofs.YtcdpakjhjmchhaaGreatDoor.Hd (ints)
open Go.Proofs.YtcdpakjhjmchhaaGreatDoor.In (Glo ints_length ints_one mayR decA encR encR_length decOk getR_enc z15 wordOk kindOk)
open Go.Proofs.YtcdpakjhjmchhaaGreatDoor.Ino (getM putM Cok getM_length rblk rat)
open Go.Proofs.YtcdpakjhjmchhaaGreatDoor.Bm (findM cutM addM allM num num4 nS Wf Tight path Added find_ok add_ok num_congr path_self path_chain chain_nS path_data miss_zero many miss par walkA_ok root)
theorem root_size {R : List Int} {v : Int} (s : Nat) : root (R.set 2 v) s = root R s := by
  have e : ∀ i, 3 ≤ i → (R.set 2 v).getD i 0 = R.getD i 0 := fun i hi => by
    rw [List.getD_eq_getElem?_getD, List.getD_eq_getElem?_getD, List.getElem?_set_ne (by omega)]
  unfold root
  rw [e (3 + s) (by omega), e 13 (by omega), e 14 (by omega)]
theorem num_size {Z : Nat → Txt} {R : List Int} {v : Int} : ∀ s, s < nS → num Z (R.set 2 v) s = num Z R s := num_congr (fun s _ _ => root_size s) fun _ _ _ _ _ _ => rfl
theorem pc_size {Z : Nat → Txt} {R : List Int} {v : Int} {k : Nat} (hk : k < 16522) : pc Z (R.set 2 v) k = pc Z R k := by
  unfold pc; rw [num_size k (by unfold nS; omega)]
/-- numbers alike: all else is alike -/
theorem Wf.alike {n : Nat} {Z Z' : Nat → Txt} {R R' : List Int} (w : Wf n Z R) (hl : R'.length = 15) (hr : ∀ i, 3 ≤ i → i < 15 → 0 ≤ R'.getD i 0) (N : ∀ s, s < nS → num Z' R' s = num Z R s) (hb : ∀ j, j < n → bit Z j = true → bit Z' j = true) : Wf n Z' R' := by
  refine ⟨hl, hr, fun s hs h => ?_, fun s s' hs hs' h e => ?_⟩
  · rw [N s hs] at h ⊢
    obtain ⟨a, b, c⟩ := w.rng s hs h
    exact ⟨a, b, hb _ b c⟩
  · rw [N s hs] at h e
    rw [N s' hs'] at e
    exact w.inj s s' hs hs' h e
theorem tight_alike {Z Z' : Nat → Txt} {R R' : List Int} (tg : Tight Z R) (N : ∀ s, s < nS → num Z' R' s = num Z R s) : Tight Z' R' := fun q h1 h2 h => by
  rw [N q h2] at h
  obtain ⟨x, a, b, c⟩ := tg q h1 h2 h
  exact ⟨x, a, b, by rw [N x (by have := (Bm.data_sub h1 h2 a b).2; unfold nS; omega)]; exact c⟩
theorem many_alike {Z Z' : Nat → Txt} {R R' : List Int} (N : ∀ s, s < nS → num Z' R' s = num Z R s) : many Z' R' = many Z R := by
  unfold many
  exact cnt_congr fun s hs => by rw [N s hs]
theorem frees_alike {n : Nat} {Z Z' : Nat → Txt} (hb : ∀ j, j < n → bit Z' j = bit Z j) : frees n Z' = frees n Z := by
  unfold frees
  exact cnt_congr fun j hj => by unfold isFree; rw [hb j hj]
/-- a block that is no data block is written -/
theorem num_low {n b : Nat} {Z : Nat → Txt} {R : List Int} {bs : Txt} (w : Wf n Z R) (hb : b < (geoN n).data) : ∀ s, s < nS → num (up Z b bs) R s = num Z R s :=
  num_congr (fun _ _ _ => rfl) fun q h1 h2 h3 p _ => by
    have := (w.rng q h2 h3).1
    rw [up_ne _ _ (by omega)]
theorem bit_low {n b : Nat} {Z : Nat → Txt} {bs : Txt} (d : Dim n) (hb : (geoN n).inodes ≤ b) {j : Nat} (hj : j < n) : bit (up Z b bs) j = bit Z j := by
  have := d.map hj
  exact bit_up (by omega)
theorem pc_low {n b k : Nat} {Z : Nat → Txt} {R : List Int} {bs : Txt} (w : Wf n Z R) (hb : b < (geoN n).data) (hk : k < 16522) : pc (up Z b bs) R k = pc Z R k := by
  have hkn : k < nS := by unfold nS; omega
  unfold pc
  rw [num_low w hb k hkn]
  split
  · rfl
  · rename_i h
    have := (w.rng k hkn h).1
    rw [up_ne _ _ (by omega)]
/-- a record that stands beside one that has grown -/
theorem Gr.other {n : Nat} {Z Z1 : Nat → Txt} {R R1 S : List Int} {ps : List Nat} (g : Gr n Z R Z1 R1 ps) (w : Wf n Z S) (dis : ∀ s s', s < nS → s' < nS → num Z R s ≠ 0 → num Z R s ≠ num Z S s') :
    (∀ s, s < nS → num Z S s ≠ 0 → Z1 (num Z S s) = Z (num Z S s)) ∧ (∀ s s', s < nS → s' < nS → num Z1 R1 s ≠ 0 → num Z1 R1 s ≠ num Z S s') := by
  have D : ∀ s s', s < nS → s' < nS → num Z1 R1 s ≠ 0 → num Z1 R1 s ≠ num Z S s' := fun s s' hs hs' h e => by
    by_cases h0 : num Z R s = 0
    · have hb := g.new s hs h0 h
      rw [e] at hb h
      rw [(w.rng s' hs' h).2.2] at hb; cases hb
    · have := g.keep s hs h0
      rw [this] at e
      exact dis s s' hs hs' h0 e
  refine ⟨fun s hs h => ?_, D⟩
  have r := w.rng s hs h
  have : (geoN n).inodes ≤ (geoN n).data := Nat.le_add_right _ _
  exact g.cont _ r.2.1 (by omega) (.inr r.2.2) fun s' hs' h' e => D s' s hs' hs h' e.symm
theorem num_same {Z Z1 : Nat → Txt} {S : List Int} (h : ∀ s, s < nS → num Z S s ≠ 0 → Z1 (num Z S s) = Z (num Z S s)) : ∀ s, s < nS → num Z1 S s = num Z S s :=
  num_congr (fun _ _ _ => rfl) fun q _ h2 h3 p _ => by rw [h q h2 h3]
theorem pc_same {Z Z1 : Nat → Txt} {S : List Int} (h : ∀ s, s < nS → num Z S s ≠ 0 → Z1 (num Z S s) = Z (num Z S s)) {k : Nat} (hk : k < 16522) : pc Z1 S k = pc Z S k := by
  have hkn : k < nS := by unfold nS; omega
  unfold pc
  rw [num_same h k hkn]
  split
  · rfl
  · rename_i h0; exact h k hkn h0
/-- a file's record -/
theorem mayR_file {n : Nat} {Z : Nat → Txt} {R : List Int} (d : Dim n) (w : Wf n Z R) (h0 : R.getD 0 0 = 1) (h1 : 0 ≤ R.getD 1 0 ∧ R.getD 1 0 ≤ 1000) (h2 : 0 ≤ R.getD 2 0 ∧ R.getD 2 0 ≤ 8459264) : mayR R = true := by
  have hn := d.hi
  unfold mayR
  rw [Bool.and_eq_true]
  constructor
  · rw [List.all_eq_true]
    intro v hv
    obtain ⟨i, hi, e⟩ := List.mem_iff_getElem.mp hv
    rw [List.length_drop, w.rl] at hi
    rw [List.getElem_drop] at e
    have eg : R.getD (3 + i) 0 = v := by rw [List.getD_eq_getElem?_getD, List.getElem?_eq_getElem (by rw [w.rl]; omega)]; exact e
    have lo := w.rr (3 + i) (by omega) (by omega)
    have hi2 : v ≤ n := by
      obtain ⟨a1, a2, a3⟩ := Bm.roots_num w
      have bd : ∀ s, s < nS → ((num Z R s : Nat) : Int) ≤ n := fun s hs => by
        by_cases h : num Z R s = 0
        · omega
        · have := (w.rng s hs h).2.1; omega
      rw [← eg]
      rcases Nat.lt_or_ge i 10 with h | h
      · rw [a1 i h]; exact bd i (by unfold nS; omega)
      · rcases Nat.lt_or_ge i 11 with h' | h'
        · rw [show 3 + i = 13 by omega, a2]; exact bd _ (by decide)
        · rw [show 3 + i = 14 by omega, a3]; exact bd _ (by decide)
    unfold wordOk
    rw [Bool.and_eq_true, decide_eq_true_eq, decide_eq_true_eq]
    omega
  · rw [In.kindOk, h0, if_neg (by decide), if_pos rfl, Bool.and_eq_true, Bool.and_eq_true, Bool.and_eq_true, decide_eq_true_eq, decide_eq_true_eq, decide_eq_true_eq, decide_eq_true_eq]
    exact ⟨h1, h2⟩
end Go.Proofs.YtcdpakjhjmchhaaGreatDoor.Fi
namespace Go.Proofs.YtcdpakjhjmchhaaGreatDoor.Fi
open Go Go.Proofs Go.Proofs.YtcdpakjhjmchhaaGreatDoor.Wx Go.Proofs.YtcdpakjhjmchhaaGreatDoor.Hp Go.Proofs.YtcdpakjhjmchhaaGreatDoor.W Go.Proofs.YtcdpakjhjmchhaaGreatDoor.Ad Go.Proofs.YtcdpakjhjmchhaaGreatDoor.Tm Go.Proofs.YtcdpakjhjmchhaaGreatDoor.Bt Go.Proofs.YtcdpakjhjmchhaaGreatDoor.Spc Go.Proofs.YtcdpakjhjmchhaaGreatDoor.Re Go.Proofs.YtcdpakjhjmchhaaGreatDoor.Av
open Go.Proofs.YtcdpakjhjmchhaaGreatDoor.Hd (ints)
open Go.Proofs.YtcdpakjhjmchhaaGreatDoor.In (Glo ints_length ints_one mayR decA encR encR_length decOk getR_enc z15 wordOk kindOk)
open Go.Proofs.YtcdpakjhjmchhaaGreatDoor.Ino (getM putM Cok getM_length rblk rat)
open Go.Proofs.YtcdpakjhjmchhaaGreatDoor.Bm (findM cutM addM allM num num4 nS Wf Tight path Added find_ok add_ok num_congr path_self path_chain chain_nS path_data miss_zero many miss par walkA_ok root write_un addM_un)
def FileR (R : List Int) : Prop := R.getD 0 0 = 1 ∧ (0 ≤ R.getD 1 0 ∧ R.getD 1 0 ≤ 1000) ∧ 0 ≤ R.getD 2 0 ∧ R.getD 2 0 ≤ 8459264
/-- files i and j beside one another -/
structure Fs (n : Nat) (Z : Nat → Txt) (T : TM) (i : Nat) (R : List Int) (j : Nat) (S : List Int) : Prop where
  av : Av n Z T
  w : Wf n Z R
  w' : Wf n Z S
  tg : Tight Z R
  tg' : Tight Z S
  dis : ∀ s s', s < nS → s' < nS → num Z R s ≠ 0 → num Z R s ≠ num Z S s'
  gi : recZ n Z i = (R, 0)
  gj : recZ n Z j = (S, 0)
  fi : FileR R
  fj : FileR S
  ri : 1 ≤ i ∧ i < (geoN n).count
  rj : 1 ≤ j ∧ j < (geoN n).count
  ij : i ≠ j
  tot : frees n Z + many Z R + many Z S + (geoN n).data = n
theorem Fs.get {n i j : Nat} {Z : Nat → Txt} {T : TM} {R S : List Int} (f : Fs n Z T i R j S) (d : Dim n) : getF T (geoN n) i = (R, 0) := by
  unfold getF
  rw [getM_at f.av d f.ri.1 f.ri.2, f.gi, if_neg (fun y => by have := y.2; rw [f.fi.1] at this; cases this)]
theorem writeGo_un {g : G} {off : Nat} {s : Txt} : ∀ (k a : Nat) (T : TM) (R : List Int), (writeGo g off s k a T R).1.1.undo.length ≤ T.undo.length + 10 * k
  | 0, _, _, _ => Nat.le_refl _
  | k + 1, a, T, R => by
    by_cases ha : a < s.length
    · obtain ⟨T2, R2, v, e, ea⟩ : ∃ T2 R2 v e, addM T g R ((off + a) / 512 : Nat) = (T2, R2, v, e) := ⟨_, _, _, _, rfl⟩
      have u1 := addM_un (T := T) (g := g) (R := R) (k := ((off + a) / 512 : Nat))
      rw [ea] at u1
      have u1 : T2.undo.length ≤ T.undo.length + 9 := u1
      rw [writeGo_add ha ea]
      have u2 := write_un T2 v (putU (T2.read v).1 ((off + a) % 512) ((s.drop a).take (toP off s.length a - (off + a) % 512)))
      split
      · show T2.undo.length ≤ _; omega
      · split
        · show T2.undo.length ≤ _; omega
        · split
          · show (T2.write v _).1.undo.length ≤ _; omega
          · have := writeGo_un (g := g) (off := off) (s := s) k (nextA off s.length a) (T2.write v (putU (T2.read v).1 ((off + a) % 512) ((s.drop a).take (toP off s.length a - (off + a) % 512)))).1 R2
            omega
    · rw [writeGo_end (by omega)]; exact Nat.le_add_right _ _
/-- a write that went -/
structure Wrote (n : Nat) (Z : Nat → Txt) (T : TM) (i : Nat) (R : List Int) (j : Nat) (S : List Int) (off : Nat) (s : Txt) (Z' : Nat → Txt) (T' : TM) (R' : List Int) : Prop where
  fs : Fs n Z' T' i R' j S
  size : R'.getD 2 0 = max (R.getD 2 0) ((off + s.length : Nat) : Int)
  byt : ∀ q, q < 8459264 → byteAt Z' R' q = if off ≤ q ∧ q < off + s.length then s.getD (q - off) 0 else byteAt Z R q
  dom : ∀ x, x < nS → (num Z' R' x ≠ 0 ↔ num Z R x ≠ 0 ∨ ∃ b, b < s.length ∧ x ∈ path ((off + b) / 512))
  keep : ∀ x, x < nS → num Z R x ≠ 0 → num Z' R' x = num Z R x
  oth : ∀ x, x < nS → num Z' S x = num Z S x
  opc : ∀ k, k < 16522 → pc Z' S k = pc Z S k
  kin : ∀ x ∈ ks T', x ∈ ks T ∨ x < (geoN n).inodes ∨ x = ((blkZ n i : Nat) : Int) ∨ ∃ q, q < nS ∧ (∃ b, b < s.length ∧ q ∈ path ((off + b) / 512)) ∧ x = ((num Z' R' q : Nat) : Int)
  ext : Ext T T'
  un : T'.undo.length ≤ T.undo.length + 10 * s.length + 1
theorem writeF_ok {n i j off : Nat} {Z : Nat → Txt} {T : TM} {R S : List Int} {s : Txt} (d : Dim n) (f : Fs n Z T i R j S) (ho : off + s.length ≤ 8459264) (hs : s ≠ []) :
    (∃ Z' T' R', writeF T (geoN n) i off s = (T', 0) ∧ Wrote n Z T i R j S off s Z' T' R') ∨
    (writeF T (geoN n) i off s = (T, 60) ∧ ∃ T1 Z1 R1 ps a, a ≤ s.length ∧ Ws n T Z R off s a T1 Z1 R1 ps ∧ 87 ≤ (ks T1).length) ∨
    (writeF T (geoN n) i off s = (T, 90) ∧ ∃ T1 Z1 R1 ps a, a < s.length ∧ Ws n T Z R off s a T1 Z1 R1 ps ∧ frees n Z1 < miss Z1 R1 (path ((off + a) / 512))) := by
  have hm : T.mark.1 = (T.undo.length : Int) := by unfold TM.mark; rw [f.av.live]; rfl
  have e0 : writeF T (geoN n) i off s = undoM T (bodyW T (geoN n) i R off s) := by
    unfold writeF
    rw [if_neg (by omega), f.get d, if_neg (fun y => y rfl), if_neg (by omega), if_neg hs, Int.toNat_natCast]
  rw [e0]
  have un : ∀ T' e, e ≠ 0 → bodyW T (geoN n) i R off s = (T', e) → Ext T T' → undoM T (bodyW T (geoN n) i R off s) = (T, e) := fun T' e he hb x => by
    rw [hb]
    unfold undoM
    rw [if_pos he, hm, x.back f.av.live]
  have hd := d.data
  have hin : (geoN n).inodes ≤ (geoN n).data := Nat.le_add_right _ _
  rcases writeGo_ok d ho s.length 0 T Z R [] (by omega) (Nat.zero_le _) (Ws.zero f.av f.w f.tg) with ⟨Z2, ps, e, W⟩ | ⟨T1, Z1, R1, ps, a, e, x, ha, W, hk⟩ | ⟨T1, Z1, R1, ps, a, e, x, ha, W, hk⟩
  · generalize hres : writeGo (geoN n) off s s.length 0 T R = res at e W
    obtain ⟨⟨T2, R2⟩, er⟩ := res
    have e : er = 0 := e
    subst e
    have W : Ws n T Z R off s s.length T2 Z2 R2 ps := W
    have h0 := W.gr.head 0 (by decide)
    have h1 := W.gr.head 1 (by decide)
    have h2 := W.gr.head 2 (by decide)
    obtain ⟨q0, q1, q2, q3⟩ := f.fi
    have rb := blkZ_rng d f.ri.2
    have eB : bodyW T (geoN n) i R off s = putM T2 (geoN n) i (R2.set 2 (max (R2.getD 2 0) ((off + s.length : Nat) : Int))) := by
      unfold bodyW; rw [hres]; exact if_neg (fun y => y rfl)
    have l2 : R2.length = 15 := W.gr.w.rl
    have g2 : (R2.set 2 (max (R2.getD 2 0) ((off + s.length : Nat) : Int))).getD 2 0 = max (R2.getD 2 0) ((off + s.length : Nat) : Int) := by
      rw [List.getD_eq_getElem?_getD, List.getElem?_set_self (by omega)]; rfl
    have gn : ∀ x, x ≠ 2 → (R2.set 2 (max (R2.getD 2 0) ((off + s.length : Nat) : Int))).getD x 0 = R2.getD x 0 := fun x hx => by
      rw [List.getD_eq_getElem?_getD, List.getElem?_set_ne (by omega), ← List.getD_eq_getElem?_getD]
    generalize hR3 : R2.set 2 (max (R2.getD 2 0) ((off + s.length : Nat) : Int)) = R3 at eB g2 gn
    have N3 : ∀ Zx x, x < nS → num Zx R3 x = num Zx R2 x := fun Zx x hx => by rw [← hR3]; exact num_size x hx
    have l3 : R3.length = 15 := by rw [← hR3, List.length_set, l2]
    have w3 : Wf n Z2 R3 := Wf.alike W.gr.w l3 (fun x hx _ => by rw [gn x (by omega)]; exact W.gr.w.rr x hx (by omega)) (N3 Z2) fun _ _ h => h
    have fR3 : FileR R3 := ⟨by rw [gn 0 (by decide), h0, q0], by rw [gn 1 (by decide), h1]; exact q1, by rw [g2]; omega, by rw [g2]; omega⟩
    have m3 : mayR R3 = true := mayR_file d w3 fR3.1 fR3.2.1 fR3.2.2
    obtain ⟨oz, od⟩ := W.gr.other f.w' f.dis
    have ep := putM_at W.av d f.ri.1 f.ri.2 m3
    have lz := W.av.len _ rb.2.2.1
    have lp : (putU (Z2 (blkZ n i)) (64 * (i % 8)) (encR R3)).length = 512 := by rw [putU_length (by rw [encR_length l3]; omega), lz]
    rcases W.av.write_full rb.2.2.2 rb.2.2.1 lp with hw | ⟨hw, h96, hni⟩
    · left
      have av3 := W.av.write rb.2.2.2 rb.2.2.1 lp hw
      have kw := write_keys hw
      have bl : ∀ x, x < n → bit (up Z2 (blkZ n i) (putU (Z2 (blkZ n i)) (64 * (i % 8)) (encR R3))) x = bit Z2 x := fun x hx => bit_low d rb.1 hx
      have NR : ∀ x, x < nS → num (up Z2 (blkZ n i) (putU (Z2 (blkZ n i)) (64 * (i % 8)) (encR R3))) R3 x = num Z2 R2 x := fun x hx => (num_low w3 rb.2.1 x hx).trans (N3 Z2 x hx)
      have wS2 : Wf n Z2 S := Wf.alike f.w' f.w'.rl f.w'.rr (num_same oz) fun x hx h => (W.gr.bits x hx).mpr (.inl h)
      have NS : ∀ x, x < nS → num (up Z2 (blkZ n i) (putU (Z2 (blkZ n i)) (64 * (i % 8)) (encR R3))) S x = num Z S x := fun x hx => (num_low wS2 rb.2.1 x hx).trans (num_same oz x hx)
      have rec2 : ∀ k, 1 ≤ k → k < (geoN n).count → recZ n Z2 k = recZ n Z k := fun k k1 k2 => by
        have r := blkZ_rng d k2
        unfold recZ
        rw [W.gr.cont _ r.2.2.1 r.1 (.inl r.2.1) fun x hx h e => by have := (W.gr.w.rng x hx h).1; omega]
      have rp := fun k => recZ_put (n := n) (i := i) (k := k) (Z := Z2) l3 m3 lz
      have tot := W.gr.tot
      have ft := f.tot
      refine ⟨_, _, R3, ?_, ⟨⟨av3, Wf.alike w3 l3 w3.rr (fun x hx => num_low w3 rb.2.1 x hx) (fun x hx h => by rw [bl x hx]; exact h), Wf.alike wS2 wS2.rl wS2.rr (fun x hx => num_low wS2 rb.2.1 x hx) (fun x hx h => by rw [bl x hx]; exact h),
        tight_alike W.gr.tg NR, tight_alike f.tg' NS, fun x x' hx hx' h => ?_, ?_, ?_, fR3, f.fj, f.ri, f.rj, f.ij, ?_⟩, ?_, fun q hq => ?_, fun x hx => ?_, fun x hx h => ?_, NS, fun k hk => ?_, fun x hx => ?_, W.ext.write _ _, ?_⟩⟩
      · rw [eB, ep]
        unfold undoM
        rw [hw, if_neg (fun y => y rfl)]
        exact Prod.ext rfl hw
      · rw [NR x hx] at h ⊢
        rw [NS x' hx']
        exact od x x' hx hx' h
      · rw [rp i, if_pos rfl]
      · rw [rp j, if_neg (fun e => f.ij e.symm), rec2 j f.rj.1 f.rj.2]; exact f.gj
      · rw [frees_alike bl, many_alike NR, many_alike NS]; omega
      · rw [g2, h2]
      · have hk : q / 512 < 16522 := by omega
        rw [← W.byt q hq]
        unfold byteAt
        rw [pc_low w3 rb.2.1 hk]
        rw [← hR3, pc_size hk]
      · rw [NR x hx, W.gr.dom x hx]
        constructor
        · rintro (h | ⟨k, hk, h⟩)
          · exact .inl h
          · obtain ⟨b, hb, rfl⟩ := (W.idx k).mp hk
            exact .inr ⟨b, hb, h⟩
        · rintro (h | ⟨b, hb, h⟩)
          · exact .inl h
          · exact .inr ⟨_, (W.idx _).mpr ⟨b, hb, rfl⟩, h⟩
      · rw [NR x hx]; exact W.gr.keep x hx h
      · rw [pc_low wS2 rb.2.1 hk]; exact pc_same oz hk
      · rcases (kw x).mp hx with h | h
        · rcases W.kin x h with h | h | ⟨q, hq, ⟨k, hk, hp⟩, ex⟩
          · exact .inl h
          · exact .inr (.inl h)
          · obtain ⟨b, hb, rfl⟩ := (W.idx k).mp hk
            exact .inr (.inr (.inr ⟨q, hq, ⟨b, hb, hp⟩, by rw [NR q hq]; exact ex⟩))
        · exact .inr (.inr (.inl h))
      · have u1 := writeGo_un (g := geoN n) (off := off) (s := s) s.length 0 T R
        rw [hres] at u1
        have u1 : T2.undo.length ≤ T.undo.length + 10 * s.length := u1
        have u2 := write_un T2 ((blkZ n i : Nat) : Int) (putU (Z2 (blkZ n i)) (64 * (i % 8)) (encR R3))
        omega
    · right; left
      refine ⟨un T2 60 (by decide) (by rw [eB, ep, hw]) W.ext, T2, Z2, R2, ps, s.length, Nat.le_refl _, W, by omega⟩
  · right; left
    refine ⟨un _ 60 (by decide) ?_ x, T1, Z1, R1, ps, a, Nat.le_of_lt ha, W, hk⟩
    unfold bodyW
    rw [e, if_pos (by decide)]
  · right; right
    refine ⟨un _ 90 (by decide) ?_ x, T1, Z1, R1, ps, a, ha, W, hk⟩
    unfold bodyW
    rw [e, if_pos (by decide)]
end Go.Proofs.YtcdpakjhjmchhaaGreatDoor.Fi
namespace Go.Proofs.YtcdpakjhjmchhaaGreatDoor.In
open Go Go.Proofs Go.Proofs.YtcdpakjhjmchhaaGreatDoor.Wx Go.Proofs.YtcdpakjhjmchhaaGreatDoor.Hp Go.Proofs.YtcdpakjhjmchhaaGreatDoor.W Go.Proofs.YtcdpakjhjmchhaaGreatDoor.Su Go.Proofs.YtcdpakjhjmchhaaGreatDoor.Re Go.Proofs.YtcdpakjhjmchhaaGreatDoor.Hd
theorem append_from {elem : TI} {e : Nat} {a : Option Addr} {l c n : Nat} {xs new : List Value} {h0 h : Heap} {k : Option Addr → Nat → Nat → Heap → Prop} (f : Fr No h0 h)
    (s : Sl h elem.cells a l c xs (From h0.size)) (hn : new.length = n * elem.cells) (hz : elem.zero.length = elem.cells) (hb : (l + n) * elem.bytes ≤ 140737488355328) (hb' : l + n ≤ 140737488355328)
    (hk : ∀ a' c' h', Fr No h0 h' → Sl h' elem.cells a' (l + n) c' (xs ++ new) (From h0.size) → k a' (l + n) c' h') :
    AppendP elem e a l c n new h k := by
  have hs := f.size
  refine append_own s hn hz hb hb' fun a' c' h' f' s' => hk a' c' h' (f.trans f' fun b hb e => by have : h0.size ≤ b := e; omega) (s'.mono fun b hb => ?_)
  rcases hb with hb | hb
  · exact hb
  · show h0.size ≤ b; omega
theorem bv_nat (m : Nat) : (Value.int .u8 (IntKind.wrap .u8 (m : Int))) = bv (UInt8.ofNat m) := by
  rw [bv_wrap]
  congr 1
  apply UInt8.toNat_inj.mp
  rw [UInt8.toNat_ofNat', UInt8.toNat_ofNat']; omega
theorem bv_mod {n : Int} (h0 : 0 ≤ n) : (Value.int .u8 (IntKind.wrap .u8 (Int.tmod n 256))) = bv (UInt8.ofNat n.toNat) := by
  have e : Int.tmod n 256 = ((n.toNat % 256 : Nat) : Int) := by rw [Int.tmod_eq_emod_of_nonneg h0]; omega
  rw [e, bv_nat]
  congr 1
  apply UInt8.toNat_inj.mp
  rw [UInt8.toNat_ofNat', UInt8.toNat_ofNat']; omega
theorem rwithin_spec {v lo hi : Int} {h : Heap} {K : Value → Heap → Prop} (hK : K (.bool (decide (lo ≤ v) && decide (v ≤ hi))) h) : C.boleref11_within v lo hi h K := by
  refine boleref11_within.ok (cd (fun x => ?_) fun x => ?_)
  · rw [decide_eq_true (show lo ≤ v from x)] at hK; exact hK
  · rw [decide_eq_false (show ¬ lo ≤ v from x)] at hK; exact hK
theorem cell15' {h : Heap} {b : Nat} {R : List Int} (r : rd h b = ints R) {i : Nat} (hi : 3 + i < R.length) : cellOf h (Addr.add (Addr.add ⟨b, 0, none⟩ 3) i) = some (.int .i64 (R.getD (3 + i) 0)) := by
  rw [add_mk]
  refine rda r ?_
  rw [Nat.zero_add, ints, List.getElem?_map, List.getD_eq_getElem?_getD, List.getElem?_eq_getElem hi]; rfl
theorem all_words {R : List Int} (hR : R.length = 15) : (R.drop 3).all wordOk = true ↔ ∀ j, j < 12 → wordOk (R.getD (3 + j) 0) = true := by
  have e : ∀ j (hj : j < (R.drop 3).length), (R.drop 3)[j] = R.getD (3 + j) 0 := fun j hj => by
    have : 3 + j < R.length := by rw [List.length_drop] at hj; omega
    rw [List.getElem_drop, List.getD_eq_getElem?_getD, List.getElem?_eq_getElem this]; rfl
  have ld : (R.drop 3).length = 12 := by rw [List.length_drop, hR]
  constructor
  · intro h j hj
    rw [← e j (by omega)]
    exact List.all_eq_true.mp h _ (List.getElem_mem _)
  · intro h
    refine List.all_eq_true.mpr fun x hx => ?_
    obtain ⟨j, hj, rfl⟩ := List.mem_iff_getElem.mp hx
    rw [e j hj]; exact h j (by omega)
theorem bad_word {R : List Int} (hR : R.length = 15) {j : Nat} (hj : j < 12) (h : wordOk (R.getD (3 + j) 0) = false) : mayR R = false := by
  cases e : (R.drop 3).all wordOk with
  | false => rw [mayR, e]; rfl
  | true => rw [(all_words hR).mp e j hj] at h; cases h
theorem rMay_k1 {R : List Int} {h1 h : Heap} {K : Value → Heap → Prop} (hR : R.length = 15) (hw : (R.drop 3).all wordOk = true) (r3 : rd h h1.size = ints R) (hK : K (.bool (mayR R)) h) : boleref11_May.k1 h1 h K := by
  have em : mayR R = kindOk (R.getD 0 0) (R.getD 1 0) (R.getD 2 0) R := by rw [mayR, hw, Bool.true_and]
  rw [em] at hK
  unfold kindOk at hK
  refine ⟨_, cell15 r3 (by omega), ce (fun h0 => ?_) fun h0 => ?_⟩
  · rw [if_pos h0] at hK
    refine ⟨ints R, by rw [ints_length, hR], cellsAll r3, pairs15 hR (S := z15) List.length_replicate, ?_⟩
    rw [show ([.int .i64 0, .int .i64 0, .int .i64 0, .int .i64 0, .int .i64 0, .int .i64 0, .int .i64 0, .int .i64 0, .int .i64 0, .int .i64 0, .int .i64 0, .int .i64 0, .int .i64 0, .int .i64 0, .int .i64 0] : List Value) = ints z15 from rfl, ints_eq]
    exact hK
  · rw [if_neg h0] at hK
    refine ce (fun h1 => ?_) fun h1 => ?_
    · rw [if_pos h1] at hK
      refine ⟨_, cell15 r3 (by omega), rwithin_spec ⟨_, rfl, ?_⟩⟩
      cases hb : (decide (0 ≤ R.getD 1 0) && decide (R.getD 1 0 ≤ 1000)) with
      | false => rw [hb] at hK; exact hK
      | true => rw [hb] at hK; exact ⟨_, cell15 r3 (by omega), rwithin_spec ⟨_, rfl, hK⟩⟩
    · rw [if_neg h1] at hK
      refine ce (fun h2' => ?_) fun h2' => ?_
      · rw [if_pos h2'] at hK
        refine ⟨_, cell15 r3 (by omega), rwithin_spec ⟨_, rfl, ?_⟩⟩
        cases hb : (decide (2 ≤ R.getD 1 0) && decide (R.getD 1 0 ≤ 65535)) with
        | false => rw [hb] at hK; exact hK
        | true =>
          rw [hb, Bool.true_and] at hK
          refine ⟨_, cell15 r3 (by omega), rwithin_spec ⟨_, rfl, ?_⟩⟩
          cases hc : (decide (0 ≤ R.getD 2 0) && decide (R.getD 2 0 ≤ 8459264)) with
          | false => rw [hc] at hK; exact hK
          | true =>
            rw [hc, Bool.true_and] at hK
            rw [Bool.and_eq_true, decide_eq_true_eq] at hc
            refine ⟨_, cell15 r3 (by omega), ?_⟩
            have e : (Int.tmod (R.getD 2 0) 512 == 0) = decide (R.getD 2 0 % 512 = 0) := by rw [Int.tmod_eq_emod_of_nonneg hc.1]; rfl
            rw [e]; exact hK
      · rw [if_neg h2'] at hK
        refine ce (fun h3' => ?_) fun h3' => ?_
        · rw [if_pos h3'] at hK
          refine ⟨_, cell15 r3 (by omega), rwithin_spec ⟨_, rfl, ?_⟩⟩
          cases hb : (decide (1 ≤ R.getD 1 0) && decide (R.getD 1 0 ≤ 1000)) with
          | false => rw [hb] at hK; exact hK
          | true => rw [hb] at hK; exact ⟨_, cell15 r3 (by omega), rwithin_spec ⟨_, rfl, hK⟩⟩
        · rw [if_neg h3'] at hK; exact hK
theorem rMay_spec {R : List Int} {h : Heap} {K : Value → Heap → Prop} (hR : R.length = 15) (hK : ∀ h', Fr No h h' → K (.bool (mayR R)) h') : C.boleref11_May (ints R) h K := by
  refine boleref11_May.ok (New.intro fun h2 n2 => ?_)
  have hK := hK h2 n2.fr
  refine ⟨fun i hh => 0 ≤ i ∧ i ≤ 10 ∧ h2 = hh ∧ ∀ j, j < i.toNat → wordOk (R.getD (3 + j) 0) = true, fun i _ => ((10 : Nat) - i).toNat, ⟨by omega, by omega, rfl, fun j hj => absurd hj (Nat.not_lt_zero _)⟩, ?_⟩
  rintro i _ ⟨i0, i1, rfl, q⟩
  have bad : ∀ j, j < 12 → wordOk (R.getD (3 + j) 0) = false → K (.bool false) h2 := fun j hj e => by
    rw [bad_word hR hj e] at hK; exact hK
  refine cd (fun hi => ?_) fun hi => ?_
  · have hi : i < 10 := hi
    refine ⟨⟨i0, hi⟩, _, cell15' n2.rd (by omega), rwithin_spec ⟨_, rfl, cnot ?_⟩⟩
    cases hw : wordOk (R.getD (3 + i.toNat) 0) with
    | false => exact cf hw (bad i.toNat (by omega) hw)
    | true =>
      rw [wrap_i64 (by omega) (by omega)]
      refine ct hw ⟨⟨by omega, by omega, rfl, fun j hj => ?_⟩, falls (m := 10) hi⟩
      by_cases e : j < i.toNat
      · exact q j e
      · have : j = i.toNat := by omega
        rw [this]; exact hw
  · have hi : ¬ i < 10 := hi
    have ei : i.toNat = 10 := by omega
    rw [ei] at q
    refine ⟨_, cell15 n2.rd (by omega), rwithin_spec ⟨_, rfl, cnot ?_⟩⟩
    cases hw : wordOk (R.getD 13 0) with
    | false => exact cf hw (bad 10 (by omega) hw)
    | true =>
      refine ct hw ⟨_, cell15 n2.rd (by omega), rwithin_spec ⟨_, rfl, cnot ?_⟩⟩
      cases hx : wordOk (R.getD 14 0) with
      | false => exact cf hx (bad 11 (by omega) hx)
      | true =>
        refine ct hx (rMay_k1 hR ((all_words hR).mpr fun j hj => ?_) n2.rd hK)
        by_cases e : j < 10
        · exact q j e
        · by_cases e' : j = 10
          · subst e'; exact hw
          · have : j = 11 := by omega
            subst this; exact hx
theorem leB_snoc (k v : Nat) : leBs (k + 1) v = leBs k v ++ [UInt8.ofNat (v / 256 ^ k)] := by
  rw [leBs, List.range_succ, List.map_append]; rfl
theorem low_spec {n : Int} {k : Nat} {h : Heap} {K : Value → Heap → Prop} (h0 : 0 ≤ n) (h1 : n ≤ 9223372036854775807) (hk : k ≤ 8)
    (hK : ∀ a' c' h', Fr No h h' → Sl h' 1 a' k c' ((leBs k n.toNat).map bv) (From h.size) → K (.slice a' k c') h') : C.boleref11_low n (k : Int) h K := by
  refine boleref11_low.ok ⟨fun m a l c i hh => 0 ≤ i ∧ i ≤ k ∧ l = i.toNat ∧ 0 ≤ m ∧ m ≤ 9223372036854775807 ∧ m.toNat = n.toNat / 256 ^ i.toNat ∧ Fr No h hh ∧ Sl hh 1 a l c ((leBs i.toNat n.toNat).map bv) (From h.size), fun _ _ _ _ i _ => ((k : Nat) - i).toNat,
    ⟨by omega, by omega, rfl, h0, h1, by show _ = _ / 256 ^ 0; omega, Fr.refl _ _, Sl.nil _ _ _⟩, ?_⟩
  rintro m a l c i h2 ⟨i0, i1, rfl, m0, m1, em, f2, s2⟩
  refine cd (fun hi => ?_) fun hi => ?_
  · have hi : i < k := hi
    refine New.intro fun h3 n3 => ⟨[bv (UInt8.ofNat m.toNat)], rfl, cellsAll (by rw [n3.rd, bv_mod m0]), bv_one [UInt8.ofNat m.toNat], append_from (f2.new n3) (s2.fr n3.fr fun _ _ _ x => x) rfl rfl (by show (i.toNat + 1) * 1 ≤ _; omega) (by omega) fun a' c' h4 f4 s4 => ?_⟩
    have ed : Int.tdiv m 256 = m / 256 := Int.tdiv_eq_ediv_of_nonneg m0
    rw [ed, wrap_i64 (n := m / 256) (by omega) (by omega), wrap_i64 (by omega) (by omega)]
    refine ⟨⟨by omega, by omega, by omega, by omega, by omega, ?_, f4, ?_⟩, falls (m := k) hi⟩
    · rw [show (i + 1).toNat = i.toNat + 1 by omega, Nat.pow_succ, ← Nat.div_div_eq_div_mul, ← em]; omega
    · rw [show (i + 1).toNat = i.toNat + 1 by omega, leB_snoc, ← em, List.map_append]; exact s4
  · have hi : ¬ i < k := hi
    have : i.toNat = k := by omega
    rw [this] at s2 ⊢
    exact hK a c h2 f2 s2
theorem low_app {n : Int} {k l c : Nat} {a : Option Addr} {xs : List UInt8} {h0 h : Heap} {K : Option Addr → Nat → Nat → Heap → Prop} (hn : 0 ≤ n) (hn' : n ≤ 9223372036854775807) (hk : k ≤ 8) (hl : l + k ≤ 1000) (f : Fr No h0 h)
    (s : Sl h 1 a l c (xs.map bv) (From h0.size)) (hK : ∀ a' c' h', Fr No h0 h' → Sl h' 1 a' (l + k) c' ((xs ++ leBs k n.toNat).map bv) (From h0.size) → K a' (l + k) c' h') :
    C.boleref11_low n (k : Int) h fun r1 h4 => ∃ (sA1 : Option Addr) (sL1 : Nat) (sC1 : Nat), r1 = .slice sA1 sL1 sC1 ∧
      ∃ new1 : List Value, List.length new1 = sL1 * 1 ∧ SlCells h4 sA1 new1 ∧ (∀ v ∈ new1, v.oneCell' = true) ∧ AppendP ti5 5 a l c sL1 new1 h4 K := by
  refine low_spec hn hn' hk fun a' c' h' f' s' => ⟨_, _, _, rfl, _, by rw [List.length_map, leB_length, Nat.mul_one], s'.cells, bv_one _, ?_⟩
  refine append_from (f.no f') (s.fr f' fun _ _ _ x => x) (by rw [List.length_map, leB_length]; show k = k * 1; omega) rfl (by show (l + k) * 1 ≤ _; omega) (by omega) fun a2 c2 h2 f2 s2 => hK a2 c2 h2 f2 ?_
  rw [List.map_append]; exact s2
theorem rLaid_spec {R : List Int} {h : Heap} {K : Value → Heap → Prop} (hR : R.length = 15) (hm : mayR R = true)
    (hK : ∀ a' c' h', Fr No h h' → Sl h' 1 a' 64 c' ((encR R).map bv) (From h.size) → K (.slice a' 64 c') h') : C.boleref11_laid (ints R) h K := by
  obtain ⟨k0, k1, l0, l1, z0, z1, hw⟩ := mayR_bounds hR hm
  have hx : ∀ j, j < 12 → 0 ≤ R.getD (3 + j) 0 ∧ R.getD (3 + j) 0 ≤ 4294967295 := fun j hj => by
    have hj' : 3 + j < R.length := by omega
    have e : R.getD (3 + j) 0 = (R.drop 3)[j]'(by rw [List.length_drop]; omega) := by
      rw [List.getElem_drop, List.getD_eq_getElem?_getD, List.getElem?_eq_getElem hj']; rfl
    rw [e]; exact hw _ (List.getElem_mem _)
  have tk : ∀ j, j < 12 → (R.drop 3).take (j + 1) = (R.drop 3).take j ++ [R.getD (3 + j) 0] := fun j hj => by
    have hj' : 3 + j < R.length := by omega
    rw [List.take_succ_eq_append_getElem (by rw [List.length_drop]; omega), List.getElem_drop, List.getD_eq_getElem?_getD, List.getElem?_eq_getElem hj']; rfl
  have fk : ∀ j, j < 12 → flat4 ((R.drop 3).take (j + 1)) = flat4 ((R.drop 3).take j) ++ leBs 4 (R.getD (3 + j) 0).toNat := fun j hj => by
    rw [tk j hj, flat4, List.flatMap_append]
    show _ ++ (leBs 4 _ ++ []) = _
    rw [List.append_nil, flat4]
  refine boleref11_laid.ok (New.intro fun h2 n2 => ⟨_, cell15 n2.rd (by omega), New.intro fun h3 n3 => ?_⟩)
  have s2 := n2.size
  have s3 := n3.size
  have F3 := n2.fr.new n3
  have kd : ∀ {hq : Heap}, Fr No h2 hq → rd hq h.size = ints R := fun fq => (fq.rd n2.own.lt fun x => x).trans n2.rd
  have eK : (Value.int .u8 (IntKind.wrap .u8 (R.getD 0 0))) = bv (UInt8.ofNat (R.getD 0 0).toNat) := by
    rw [← bv_nat, Int.toNat_of_nonneg k0]
  have b3 : Sl h3 1 (some ⟨h2.size, 0, none⟩) 2 2 ((leBs 1 (R.getD 0 0).toNat ++ [0]).map bv) (From h2.size) :=
    Sl.made (zs := []) n3 (by rw [leB_one, eK]; rfl) (Nat.le_refl _) (by rw [leB_one]; rfl) (Nat.le_refl _) rfl
  refine ⟨_, cell15 (kd n3.fr) (by omega), low_app (k := 2) l0 (by omega) (by omega) (by omega) n3.fr b3 fun a5 c5 h5 f5 s5 => ⟨_, cell15 (kd f5) (by omega), low_app (k := 4) z0 (by omega) (by omega) (by omega) f5 s5 fun a7 c7 h7 f7 s7 => ?_⟩⟩
  generalize hH : (leBs 1 (R.getD 0 0).toNat ++ [0]) ++ leBs 2 (R.getD 1 0).toNat ++ leBs 4 (R.getD 2 0).toNat = H at s7
  have eH : encR R = H ++ (flat4 (R.drop 3) ++ zeros 8) := by rw [encR, ← hH]; simp only [List.append_assoc]
  clear hH
  refine ⟨fun a l c i hh => 0 ≤ i ∧ i ≤ 10 ∧ l = 8 + 4 * i.toNat ∧ Fr No h2 hh ∧ Sl hh 1 a l c ((H ++ flat4 ((R.drop 3).take i.toNat)).map bv) (From h2.size), fun _ _ _ i _ => ((10 : Nat) - i).toNat,
    ⟨by omega, by omega, rfl, f7, by show Sl h7 1 _ _ _ ((H ++ []).map bv) _; rw [List.append_nil]; exact s7⟩, ?_⟩
  rintro a8 l8 c8 i h8 ⟨i0, i1, rfl, f8, s8⟩
  refine cd (fun hi => ?_) fun hi => ?_
  · have hi : i < 10 := hi
    have hb := hx i.toNat (by omega)
    refine ⟨⟨i0, hi⟩, _, cell15' (kd f8) (by omega), low_app (k := 4) hb.1 (by omega) (by omega) (by omega) f8 s8 fun a9 c9 h9 f9 s9 => ?_⟩
    rw [wrap_i64 (by omega) (by omega)]
    refine ⟨⟨by omega, by omega, by omega, f9, ?_⟩, falls (m := 10) hi⟩
    rw [show (i + 1).toNat = i.toNat + 1 by omega, fk _ (by omega), ← List.append_assoc]; exact s9
  · have hi : ¬ i < 10 := hi
    have ei : i.toNat = 10 := by omega
    rw [ei] at s8 ⊢
    refine ⟨_, cell15 (kd f8) (by omega), low_app (k := 4) (hx 10 (by omega)).1 (Int.le_trans (hx 10 (by omega)).2 (by decide)) (by omega) (by omega) f8 s8 fun a9 c9 h9 f9 s9 => ?_⟩
    refine ⟨_, cell15 (kd f9) (by omega), low_app (k := 4) (hx 11 (by omega)).1 (Int.le_trans (hx 11 (by omega)).2 (by decide)) (by omega) (by omega) f9 s9 fun a10 c10 h10 f10 s10 => ?_⟩
    refine New.intro fun h11 n11 => ⟨(zeros 8).map bv, rfl, cellsAll n11.rd, bv_one _, append_from (f10.new n11) (s10.fr n11.fr fun _ _ _ x => x) rfl rfl (by decide) (by decide) fun a12 c12 h12 f12 s12 => ?_⟩
    refine hK a12 c12 h12 (n2.fr.no f12) ?_
    have e12 : R.drop 3 = (R.drop 3).take 12 := (List.take_of_length_le (by rw [List.length_drop]; omega)).symm
    rw [eH, e12, fk 11 (by omega), fk 10 (by omega)]
    rw [← List.map_append] at s12
    simp only [List.append_assoc] at s12 ⊢
    exact s12.mono fun b hb => by have : h2.size ≤ b := hb; show h.size ≤ b; omega
theorem rEncode_spec {R : List Int} {h : Heap} {K : Value → Heap → Prop} (hR : R.length = 15) (hN : mayR R = false → ∀ h', Fr No h h' → K (.tuple #[.slice none 0 0, .int .i64 111]) h')
    (hK : mayR R = true → ∀ a' c' h', Fr No h h' → Sl h' 1 a' 64 c' ((encR R).map bv) (From h.size) → K (.tuple #[.slice a' 64 c', .int .i64 0]) h') : C.boleref11_Encode (ints R) h K := by
  refine boleref11_Encode.ok (New.intro fun h2 n2 => ⟨ints R, by rw [ints_length, hR], cellsAll n2.rd, rMay_spec hR fun h3 f3 => ⟨_, rfl, cnot ?_⟩⟩)
  have s2 := n2.size
  have s3 := f3.size
  have F3 := n2.fr.no f3
  have r3 : rd h3 h.size = ints R := (f3.rd n2.own.lt fun x => x).trans n2.rd
  cases hm : mayR R with
  | false => exact hN hm h3 F3
  | true => exact ct rfl ⟨ints R, by rw [ints_length, hR], cellsAll r3, rLaid_spec hR hm fun a' c' h4 f4 s4 => ⟨_, _, _, rfl, hK hm a' c' h4 (F3.no f4) (s4.mono fun b hb => by have : h3.size ≤ b := hb; show h.size ≤ b; omega)⟩⟩
end Go.Proofs.YtcdpakjhjmchhaaGreatDoor.In
namespace Go.Proofs.YtcdpakjhjmchhaaGreatDoor.Fi
open Go Go.Proofs Go.Proofs.YtcdpakjhjmchhaaGreatDoor.Wx Go.Proofs.YtcdpakjhjmchhaaGreatDoor.Hp Go.Proofs.YtcdpakjhjmchhaaGreatDoor.W Go.Proofs.YtcdpakjhjmchhaaGreatDoor.Ad Go.Proofs.YtcdpakjhjmchhaaGreatDoor.Tm Go.Proofs.YtcdpakjhjmchhaaGreatDoor.Bt Go.Proofs.YtcdpakjhjmchhaaGreatDoor.Spc Go.Proofs.YtcdpakjhjmchhaaGreatDoor.Re Go.Proofs.YtcdpakjhjmchhaaGreatDoor.Av
open Go.Proofs.YtcdpakjhjmchhaaGreatDoor.Hd (ints)
open Go.Proofs.YtcdpakjhjmchhaaGreatDoor.In (Glo ints_length ints_one mayR encR encR_length)
open Go.Proofs.YtcdpakjhjmchhaaGreatDoor.Bm (Im updU edge lowU lowU_hit lowU_miss)
theorem set_range {α : Type} {N k : Nat} {f : Nat → α} {v : α} : ((List.range N).map f).set k v = (List.range N).map fun j => if j = k then v else f j := by
  refine List.ext_getElem (by rw [List.length_set, List.length_map, List.length_map]) fun i h1 h2 => ?_
  rw [List.getElem_set, List.getElem_map, List.getElem_map, List.getElem_range]
  by_cases e : k = i
  · rw [if_pos e, if_pos e.symm]
  · rw [if_neg e, if_neg (fun y => e y.symm)]
theorem putU_snoc {Z W : Txt} {o m : Nat} (hm : m < W.length) (ho : o + W.length ≤ Z.length) : (putU Z o (W.take m)).set (o + m) W[m] = putU Z o (W.take (m + 1)) := by
  have l1 : (W.take m).length = m := by rw [List.length_take]; omega
  have l2 : (W.take (m + 1)).length = m + 1 := by rw [List.length_take]; omega
  unfold putU
  rw [l1, l2, List.append_assoc, List.set_append_right _ _ (by rw [List.length_take]; omega), List.length_take, show o + m - min o Z.length = m by omega, List.set_append_right _ _ (by rw [l1]; exact Nat.le_refl _), l1, Nat.sub_self]
  have ed : Z.drop (o + m) = Z[o + m] :: Z.drop (o + m + 1) := List.drop_eq_getElem_cons (by omega)
  rw [ed, List.set_cons_zero, List.take_succ_eq_append_getElem hm, List.append_assoc, List.append_assoc]
  rfl
theorem bit_add : ∀ n : Fin 256, ∀ s : Fin 8, n.val.testBit s.val = false → IntKind.wrap .u8 ((n.val : Int) + ((2 ^ s.val : Nat) : Int)) = (setB n.val s.val true : Nat) := by decide +kernel
/-- between the bits: what is told of the bytes -/
structure Ib (n : Nat) (W : Txt) (m : Nat) (L : Txt) : Prop where
  im : Im n (lowU n m) L
  rest : ∀ q, 512 * (geoN n).inodes ≤ q → L.getD q 0 = (putU (List.replicate (512 * n) 0) (512 * (geoN n).inodes + 64) W).getD q 0
theorem Ib.zero {n : Nat} {W : Txt} (hn : 128 ≤ n ∧ n < 4428) (hW : W.length ≤ 448) : Ib n W 0 (putU (List.replicate (512 * n) 0) (512 * (geoN n).inodes + 64) W) := by
  have hino : (geoN n).inodes = 98 + (n + 4095) / 4096 := rfl
  refine ⟨⟨(putU_length (by rw [List.length_replicate]; omega)).trans List.length_replicate, fun j hj => ?_⟩, fun _ _ => rfl⟩
  have : lowU n 0 j = false := by unfold lowU; rw [decide_eq_false (by omega)]; rfl
  rw [this]
  unfold bitAt putU
  rw [List.getD_eq_getElem?_getD, List.append_assoc, List.getElem?_append_left (by rw [List.length_take, List.length_replicate]; omega), List.getElem?_take, if_pos (by omega), List.getElem?_replicate]
  split <;> exact Nat.zero_testBit _
theorem Ib.miss {n m : Nat} {W L : Txt} (a : Ib n W m L) (h : edge n m = false) : Ib n W (m + 1) L := ⟨a.im.congr (lowU_miss h), a.rest⟩
theorem Ib.hit {n m : Nat} {W L : Txt} (a : Ib n W m L) (hn : 128 ≤ n ∧ n < 4428) (hm : m < 4096 * ((geoN n).inodes - 98)) (h : edge n m = true) : Ib n W (m + 1) (putBit L (98 * 4096 + m) true) := by
  refine ⟨(a.im.put hn hm).congr (lowU_hit h), fun q hq => ?_⟩
  rw [← a.rest q hq]
  have h98 : 98 ≤ (geoN n).inodes := by show 98 ≤ 98 + _; omega
  unfold putBit
  rw [List.getD_eq_getElem?_getD, List.getD_eq_getElem?_getD, List.getElem?_set, if_neg (by omega), ← List.getD_eq_getElem?_getD]
theorem pow_step : ∀ s : Fin 7, IntKind.wrap .u8 (((2 ^ s.val : Nat) : Int) * 2) = ((2 ^ (s.val + 1) : Nat) : Int) := by decide +kernel
theorem image_spec {n : Nat} {recs : List (List Int)} {ra : Option Addr} {rc : Nat} {h : Heap} {K : Value → Heap → Prop} (hn : 128 ≤ n ∧ n < 4428) (Y : SlCells h ra (recs.flatMap ints)) (hR : ∀ R ∈ recs, R.length = 15) (hm : ∀ R ∈ recs, mayR R = true)
    (hd : ∀ R ∈ recs, ∀ i, i < 10 → R.getD (3 + i) 0 = 0) (hc : recs.length ≤ 7)
    (hK : ∀ ib L h', Fr No h h' → Ib n (recs.flatMap encR) (4096 * ((geoN n).inodes - 98)) L → Own h' ib → h.size ≤ ib → rd h' ib = L.map bv → K (.slice (some ⟨ib, 0, none⟩) (512 * n) (512 * n)) h') : C.boleref12_Image (geoN n).v ra recs.length rc h K := by
  have hdat : (geoN n).data = 98 + (n + 4095) / 4096 + n / 64 := rfl
  have hino : (geoN n).inodes = 98 + (n + 4095) / 4096 := rfl
  have hbit : (geoN n).bitmap = 98 := rfl
  have hcnt : (geoN n).count = 8 * (n / 64) := rfl
  have hblk : (geoN n).blocks = n := rfl
  refine boleref12_Image.ok (New.intro fun h2 n2 => ⟨((geoN n).blocks : Int), rda n2.rd rfl, ?_⟩)
  have e1 : IntKind.wrap .i64 (((geoN n).blocks : Int) * 512) = ((512 * n : Nat) : Int) := by rw [wrap_i64 (by omega) (by omega)]; omega
  rw [e1, Int.toNat_natCast]
  refine ⟨⟨by omega, by omega, by omega, by omega⟩, New.intro fun h3 n3 => ?_⟩
  have z2 := n2.size
  have z3 := n3.size
  have rg3 : rd h3 h.size = (geoN n).v := (n3.at_ n2.own.lt).trans n2.rd
  refine ⟨((geoN n).inodes : Int), rda rg3 rfl, ((geoN n).bitmap : Int), rda rg3 rfl, ?_⟩
  have e2 : IntKind.wrap .i64 (IntKind.wrap .i64 (((geoN n).inodes : Int) - ((geoN n).bitmap : Int)) * 4096) = ((4096 * ((geoN n).inodes - 98) : Nat) : Int) := by rw [wrap_i64 (n := ((geoN n).inodes : Int) - ((geoN n).bitmap : Int)) (by omega) (by omega), wrap_i64 (by omega) (by omega)]; omega
  rw [e2, Int.toNat_natCast]
  generalize hN : 4096 * ((geoN n).inodes - 98) = N at hK ⊢
  refine ⟨⟨by omega, by omega, by omega, by omega⟩, New.intro fun h4 n4 => ?_⟩
  have z4 := n4.size
  have F4 : Fr No h h4 := (n2.fr.new n3).new n4
  have rg4 : rd h4 h.size = (geoN n).v := (n4.at_ (by omega)).trans rg3
  have rb4 : rd h4 h2.size = (List.replicate (512 * n) (0 : UInt8)).map bv := by rw [n4.at_ (by omega), n3.rd, List.map_replicate]; rfl
  have ob4 : Own h4 h2.size := n4.ow n3.own
  have ro4 : rd h4 h3.size = (List.range N).map fun j => Value.bool (lowU n 0 j) := by
    rw [n4.rd]
    show List.replicate N (Value.bool false) = _
    refine List.ext_getElem (by rw [List.length_replicate, List.length_map, List.length_range]) fun i h1 h2 => ?_
    rw [List.getElem_replicate, List.getElem_map, List.getElem_range]
    unfold lowU
    rw [decide_eq_false (by omega)]; rfl
  -- which bits
  refine ⟨fun i hh => ∃ k : Nat, i = k ∧ k ≤ N ∧ Fr (fun b => b = h3.size) h4 hh ∧ Own hh h3.size ∧ rd hh h3.size = (List.range N).map fun j => Value.bool (lowU n k j), fun i _ => ((N : Int) - i).toNat, ⟨0, rfl, Nat.zero_le _, Fr.refl _ _, n4.own, ro4⟩, ?_⟩
  rintro i h5 ⟨k, ei, hk, f5, o5, r5⟩
  have z5 := f5.size
  have rg5 : rd h5 h.size = (geoN n).v := (f5.rd (by omega) (by omega)).trans rg4
  have l5 : (rd h5 h3.size).length = N := by rw [r5, List.length_map, List.length_range]
  refine cd (fun hl => ?_) fun hl => ?_
  · have hk' : k < N := by omega
    have set : ∀ v, v = edge n k → (0 ≤ i ∧ i < (N : Int)) ∧ Put (Addr.add ⟨h3.size, 0, none⟩ (Int.toNat i)) (.bool v) h5 fun h6 => (∃ k : Nat, IntKind.wrap .i64 (i + 1) = k ∧ k ≤ N ∧ Fr (fun b => b = h3.size) h4 h6 ∧ Own h6 h3.size ∧ rd h6 h3.size = (List.range N).map fun j => Value.bool (lowU n k j)) ∧ ((N : Int) - IntKind.wrap .i64 (i + 1)).toNat < ((N : Int) - i).toNat := fun v hv => by
      refine ⟨⟨by omega, by omega⟩, Put.add o5 (by rw [l5]; omega) fun h6 d6 => ?_⟩
      rw [wrap_i64 (n := i + 1) (by omega) (by omega)]
      refine ⟨⟨k + 1, by omega, hk', f5.trans d6.fr fun _ _ e => e, d6.own, ?_⟩, by omega⟩
      rw [d6.rd, r5, show 0 + i.toNat = k by omega, set_range]
      refine List.map_congr_left fun j hj => ?_
      unfold lowU
      by_cases e : j = k
      · subst e; rw [if_pos rfl, decide_eq_true (by omega), hv]; rfl
      · have : decide (j < k + 1) = decide (j < k) := decide_eq_decide.mpr (by omega)
        rw [if_neg e, this]
    refine ⟨((geoN n).data : Int), rda rg5 rfl, cd (fun hlt => ?_) fun hlt => ⟨((geoN n).blocks : Int), rda rg5 rfl, ?_⟩⟩
    · exact set true (by unfold edge; rw [decide_eq_true (by omega)]; rfl)
    · refine set _ ?_
      unfold edge
      rw [decide_eq_false (show ¬ k < (geoN n).data by omega), Bool.false_or, decide_eq_decide]
      omega
  have ek : N = k := by omega
  subst ek
  clear hl hk ei i
  -- the records
  have hW : ∀ R ∈ recs, (encR R).length = 64 := fun R hr => encR_length (hR R hr)
  have lW : (recs.flatMap encR).length = recs.length * 64 := by
    have : ∀ l : List (List Int), (∀ R ∈ l, (encR R).length = 64) → (l.flatMap encR).length = l.length * 64 := by
      intro l
      induction l with
      | nil => intro _; rfl
      | cons R l ih => intro h; rw [List.flatMap_cons, List.length_append, h R (List.mem_cons_self ..), ih fun x hx => h x (List.mem_cons_of_mem _ hx), List.length_cons]; omega
    exact this recs hW
  have hwr : recs.length * 64 ≤ 448 := by omega
  have hz : (List.replicate (512 * n) (0 : UInt8)).length = 512 * n := List.length_replicate
  have lP : ∀ m, (putU (List.replicate (512 * n) (0 : UInt8)) (512 * (geoN n).inodes + 64) ((recs.flatMap encR).take m)).length = 512 * n := fun m => (putU_length (by rw [List.length_take, hz, lW]; omega)).trans hz
  have f5' : Fr No h h5 := F4.trans f5 fun b hb y => by omega
  have Y5 : SlCells h5 ra (recs.flatMap ints) := SlCells.fr f5' Y fun _ _ y => y
  refine ⟨fun i hh => ∃ k : Nat, i = k ∧ k ≤ recs.length ∧ Fr (fun b => b = h2.size) h5 hh ∧ Own hh h2.size ∧ rd hh h2.size = (putU (List.replicate (512 * n) (0 : UInt8)) (512 * (geoN n).inodes + 64) ((recs.flatMap encR).take (64 * k))).map bv, fun i _ => ((recs.length : Int) - i).toNat,
    ⟨0, rfl, Nat.zero_le _, Fr.refl _ _, f5.own (by omega) (by omega) ob4, by rw [f5.rd (by omega) (by omega), rb4]; show _ = (putU _ _ []).map bv; rw [putU_nil]⟩, ?_⟩
  rintro i h8 ⟨k, ei, hk, f8, o8, r8⟩
  have z8 := f8.size
  have F8 : Fr No h h8 := f5'.trans f8 fun b hb y => by omega
  have rg8 : rd h8 h.size = (geoN n).v := (f8.rd (by omega) (by omega)).trans rg5
  refine cd (fun hl => ?_) fun hl => ?_
  · have hk' : k < recs.length := by omega
    have Y8 := SlCells.fr f8 Y5 fun p hp y => by
      subst hp
      have hb : p.block < h.size := by
        have hl : 0 < (recs.flatMap ints).length := by
          rw [flat_length ints 15 recs fun R hr => by rw [ints_length, hR R hr]]; omega
        have := Y 0 _ (List.getElem?_eq_getElem hl)
        obtain ⟨_, e2⟩ := cellOf_some this
        rw [Addr.add_zero] at e2
        exact rd_lt e2
      omega
    have hw : ∀ R ∈ recs, (ints R).length = 15 := fun R hr => by rw [ints_length, hR R hr]
    obtain ⟨p, ep, cc⟩ : ∃ p, ra = some p ∧ Cells h8 (p.add (k * 15)) (ints (recs[k]'hk')) := by
      cases ra with
      | none =>
        have c : recs.flatMap ints = [] := Y8
        have := flat_length ints 15 recs hw
        rw [c] at this
        exact absurd this (by simp; omega)
      | some p =>
        refine ⟨p, rfl, ?_⟩
        have := Cells.take (Cells.drop Y8 (k * 15)) 15
        rw [flat_part ints 15 recs hw k hk'] at this
        exact this
    have hr := List.getElem_mem hk'
    have lR := hR _ hr
    have lE := hW _ hr
    have mR := hm _ hr
    have dR := hd _ hr
    have eW : ∀ m (h : m < 64), (recs.flatMap encR)[64 * k + m]'(by rw [lW]; omega) = (encR (recs[k]'hk'))[m]'(by rw [lE]; exact h) := fun m hm => by
      have : ∀ (l : List (List Int)), (∀ R ∈ l, (encR R).length = 64) → ∀ k (hk : k < l.length) (hx : 64 * k + m < (l.flatMap encR).length) (hy : m < (encR l[k]).length), (l.flatMap encR)[64 * k + m] = (encR l[k])[m] := by
        intro l
        induction l with
        | nil => intro _ k hk; exact absurd hk (Nat.not_lt_zero _)
        | cons R l ih =>
          intro h k hk hx hy
          have hR := h R (List.mem_cons_self ..)
          cases k with
          | zero =>
            simp only [List.flatMap_cons, Nat.mul_zero, Nat.zero_add, List.getElem_cons_zero]
            rw [List.getElem_append_left]
          | succ k =>
            simp only [List.flatMap_cons, List.getElem_cons_succ]
            rw [List.getElem_append_right (by omega)]
            have hx' : 64 * k + m < (l.flatMap encR).length := by rw [List.flatMap_cons, List.length_append] at hx; omega
            have := ih (fun x hx => h x (List.mem_cons_of_mem _ hx)) k (by rw [List.length_cons] at hk; omega) hx' hy
            rw [← this]
            congr 1; omega
      exact this recs hW k hk' _ _
    generalize recs[k]'hk' = R at cc lR lE mR dR eW
    refine ⟨⟨by omega, hl⟩, Tm.oe ep ⟨_, by rw [ints_length, lR], by rw [show i.toNat = k by omega]; exact cc, NewRow.intro (by rw [ints_length, lR]) (ints_one _) rfl fun h10 n10 => ⟨_, by rw [ints_length, lR], cellsAll n10.rd, ?_⟩⟩⟩
    have z10 := n10.size
    refine In.rEncode_spec lR (fun y => by rw [mR] at y; cases y) fun _ a1 c1 h11 f11 s11 => ⟨_, _, _, _, rfl, cn (fun y => absurd rfl y) fun _ => ?_⟩
    have z11 := f11.size
    have rg11 : rd h11 h.size = (geoN n).v := (f11.rd (by omega) fun y => y).trans ((n10.at_ (by omega)).trans rg8)
    have r11 : rd h11 h8.size = ints R := (f11.rd (by omega) fun y => y).trans n10.rd
    refine ⟨((geoN n).count : Int), rda rg11 rfl, ?_⟩
    rw [wrap_i64 (n := i + 1) (by omega) (by omega)]
    refine cd (fun y => by exfalso; omega) fun _ => ?_
    unfold boleref12_Image.k1
    have ew : IntKind.wrap .i64 (i + 1) = i + 1 := wrap_i64 (by omega) (by omega)
    rw [ew, e1, Int.toNat_natCast]
    have f11' : Fr (fun b => b = h2.size) h5 h11 := (f8.new n10).no f11
    have b11 : rd h11 h2.size = _ := (f11.rd (by omega) fun y => y).trans ((n10.at_ (by omega)).trans r8)
    have o11 : Own h11 h2.size := f11.own (by omega) (fun y => y) (n10.ow o8)
    obtain ⟨p2, ep2, c2⟩ := s11.get (by omega)
    subst ep2
    obtain ⟨pb, po, sp⟩ := p2
    have esp : sp = none := s11.2.1
    subst esp
    have hfrom : h10.size ≤ pb := s11.2.2.1
    refine ⟨fun j hh => ∃ m : Nat, j = m ∧ m ≤ 64 ∧ Fr (fun b => b = h2.size) h11 hh ∧ Own hh h2.size ∧ rd hh h2.size = (putU (List.replicate (512 * n) (0 : UInt8)) (512 * (geoN n).inodes + 64) ((recs.flatMap encR).take (64 * k + m))).map bv, fun j _ => (64 - j).toNat, ⟨0, rfl, by omega, Fr.refl _ _, o11, b11⟩, ?_⟩
    rintro j h12 ⟨m, ej, hm, f12, o12, r12⟩
    have z12 := f12.size
    have rg12 : rd h12 h.size = (geoN n).v := (f12.rd (by omega) (by omega)).trans rg11
    refine cd (fun hlt => ?_) fun hlt => ?_
    · have hm' : m < 64 := by omega
      have s12 := s11.fr f12 fun b _ hb y => by have hb : h10.size ≤ b := hb; omega
      have c12 : cellOf h12 (Addr.add ⟨pb, po, none⟩ m) = some (bv ((encR R)[m]'(by rw [lE]; exact hm'))) := s12.cells m _ (by rw [List.getElem?_map, List.getElem?_eq_getElem (by rw [lE]; exact hm')]; rfl)
      have eidx : IntKind.wrap .i64 ((IntKind.wrap .i64 ((IntKind.wrap .i64 (((geoN n).inodes : Int) * 512)) + (IntKind.wrap .i64 (64 * (i + 1))))) + j) = ((512 * (geoN n).inodes + 64 + (64 * k + m) : Nat) : Int) := by
        rw [wrap_i64 (n := ((geoN n).inodes : Int) * 512) (by omega) (by omega), wrap_i64 (n := 64 * (i + 1)) (by omega) (by omega), wrap_i64 (n := ((geoN n).inodes : Int) * 512 + 64 * (i + 1)) (by omega) (by omega), wrap_i64 (by omega) (by omega)]
        omega
      refine ⟨((geoN n).inodes : Int), rda rg12 rfl, ⟨by omega, by omega⟩, os ⟨_, by rw [show j.toNat = m by omega]; exact c12, ?_⟩⟩
      rw [eidx]
      refine ⟨⟨by omega, by omega⟩, Put.add o12 (by rw [r12, List.length_map, lP]; omega) fun h13 d13 => ?_⟩
      rw [wrap_i64 (n := j + 1) (by omega) (by omega)]
      refine ⟨⟨m + 1, by omega, hm', f12.trans d13.fr fun _ _ e => e, d13.own, ?_⟩, by show (64 - (j + 1)).toNat < (64 - j).toNat; omega⟩
      rw [d13.rd, r12, Int.toNat_natCast, Nat.zero_add]
      show (List.map bv _).set _ (bv _) = _
      rw [← List.map_set, ← eW m hm', putU_snoc (by rw [lW]; omega) (by rw [lW, hz]; omega)]
      rfl
    have em : m = 64 := by omega
    subst em
    have r12' : rd h12 h8.size = ints R := (f12.rd (by omega) (by omega)).trans r11
    refine ⟨ints ((R.drop 3).take 10), by rw [ints_length, List.length_take, List.length_drop, lR]; rfl, cellsa r12' ?_, ?_⟩
    · unfold ints
      rw [List.length_map, List.length_take, List.length_drop, lR, List.map_take, List.map_drop]
      rfl
    refine ⟨fun j hh => ∃ m : Nat, j = m ∧ m ≤ 10 ∧ hh = h12, fun j _ => (10 - j).toNat, ⟨0, rfl, by omega, rfl⟩, ?_⟩
    rintro j h14 ⟨m, ej', hm', rfl⟩
    refine cd (fun hlt => ⟨⟨by omega, by omega⟩, 0, ?_, ((geoN n).data : Int), rda rg12 rfl, cd (fun y => by exfalso; omega) fun _ => ?_⟩) fun hlt => ?_
    · have h10 : m < 10 := by omega
      have := dR m h10
      rw [show j.toNat = m by omega]
      unfold ints
      rw [List.getElem?_map, List.getElem?_take_of_lt h10, List.getElem?_drop]
      rw [List.getD_eq_getElem?_getD, List.getElem?_eq_getElem (by omega)] at this
      rw [List.getElem?_eq_getElem (by omega)]
      show some (Value.int .i64 _) = _
      rw [show R[3 + m]'(by omega) = 0 from this]
    · rw [wrap_i64 (n := j + 1) (by omega) (by omega)]
      exact ⟨⟨m + 1, by omega, by omega, rfl⟩, by show (10 - (j + 1)).toNat < (10 - j).toNat; omega⟩
    · refine ⟨⟨k + 1, by omega, hk', f11'.trans f12 fun _ _ e => e, o12, ?_⟩, by show ((recs.length : Int) - (i + 1)).toNat < ((recs.length : Int) - i).toNat; omega⟩
      rw [r12, show 64 * (k + 1) = 64 * k + 64 by omega]
  have ek : k = recs.length := by omega
  subst ek
  rw [List.take_of_length_le (by rw [lW]; omega)] at r8
  clear hl hk ei i
  -- the bits are set
  have ro8 : rd h8 h3.size = (List.range N).map fun j => Value.bool (lowU n N j) := (f8.rd (by omega) (by omega)).trans r5
  refine ⟨fun i hh => ∃ (k : Nat) (L : Txt), i = k ∧ k ≤ N ∧ Fr (fun b => b = h2.size) h8 hh ∧ Own hh h2.size ∧ rd hh h2.size = L.map bv ∧ Ib n (recs.flatMap encR) k L, fun i _ => ((N : Int) - i).toNat, ⟨0, _, rfl, Nat.zero_le _, Fr.refl _ _, o8, r8, Ib.zero hn (by rw [lW]; exact hwr)⟩, ?_⟩
  rintro i h16 ⟨k, L, ei, hk, f16, o16, r16, I⟩
  have z16 := f16.size
  have rg16 : rd h16 h.size = (geoN n).v := (f16.rd (by omega) (by omega)).trans rg8
  have lL := I.im.len
  refine cd (fun hl => ⟨⟨by omega, hl⟩, edge n k, ?_, ?_⟩) fun hl => ?_
  · have hk' : k < N := by omega
    refine rda ((f16.rd (by omega) (by omega)).trans ro8) ?_
    rw [List.getElem?_map, List.getElem?_eq_getElem (by rw [List.length_range]; omega), List.getElem_range]
    show some (Value.bool (lowU n N (0 + i.toNat))) = _
    rw [show 0 + i.toNat = k by omega]
    unfold lowU
    rw [decide_eq_true hk', Bool.true_and]
  · have hk' : k < N := by omega
    rw [wrap_i64 (n := i + 1) (by omega) (by omega)]
    cases he : edge n k with
    | false => exact cf rfl ⟨⟨k + 1, L, by omega, hk', f16, o16, r16, I.miss he⟩, by show ((N : Int) - (i + 1)).toNat < ((N : Int) - i).toNat; omega⟩
    | true =>
      refine ct rfl ⟨fun v j hh => ∃ s : Nat, j = s ∧ s ≤ k % 8 ∧ v = ((2 ^ s : Nat) : Int) ∧ hh = h16, fun _ j _ => (8 - j).toNat, ⟨0, rfl, Nat.zero_le _, rfl, rfl⟩, ?_⟩
      rintro v j h17 ⟨s, ej, hs, ev, rfl⟩
      rw [ei, tmod8, tdiv8]
      refine cd (fun hlt => ?_) fun hlt => ?_
      · have h7 : s < 7 := by omega
        rw [wrap_i64 (n := j + 1) (by omega) (by omega), ev, pow_step ⟨s, h7⟩]
        exact ⟨⟨s + 1, by omega, by omega, rfl, rfl⟩, by show (8 - (j + 1)).toNat < (8 - j).toNat; omega⟩
      · have es : s = k % 8 := by omega
        subst es
        have eidx : IntKind.wrap .i64 ((IntKind.wrap .i64 (((geoN n).bitmap : Int) * 512)) + (IntKind.wrap .i64 ((k / 8 : Nat) : Int))) = ((98 * 512 + k / 8 : Nat) : Int) := by
          rw [wrap_i64 (n := ((geoN n).bitmap : Int) * 512) (by omega) (by omega), wrap_i64 (n := ((k / 8 : Nat) : Int)) (by omega) (by omega), wrap_i64 (by omega) (by omega)]
          omega
        have hi2 : 98 * 512 + k / 8 < L.length := by omega
        have c17 : cellOf h17 (Addr.add ⟨h2.size, 0, none⟩ (98 * 512 + k / 8)) = some (bv (L.getD (98 * 512 + k / 8) 0)) := by
          refine rda r16 ?_
          rw [Nat.zero_add, List.getElem?_map, List.getD_eq_getElem?_getD, List.getElem?_eq_getElem hi2]; rfl
        refine ⟨((geoN n).bitmap : Int), rda rg16 rfl, ((geoN n).bitmap : Int), rda rg16 rfl, ?_⟩
        rw [eidx, Int.toNat_natCast]
        refine ⟨⟨by omega, by omega⟩, _, c17, ⟨by omega, by omega⟩, Put.add o16 (by rw [r16, List.length_map]; omega) fun h18 d18 => ?_⟩
        have hx : (L.getD (98 * 512 + k / 8) 0).toNat < 256 := UInt8.toNat_lt _
        have hb : (L.getD (98 * 512 + k / 8) 0).toNat.testBit (k % 8) = false := by
          have := I.im.bits k (by omega)
          unfold bitAt at this
          rw [show (98 * 4096 + k) / 8 = 98 * 512 + k / 8 by omega, show (98 * 4096 + k) % 8 = k % 8 by omega] at this
          rw [this]; unfold lowU; rw [decide_eq_false (by omega)]; rfl
        have ob : IntKind.wrap .u8 (((L.getD (98 * 512 + k / 8) 0).toNat : Int) + v) = (setB (L.getD (98 * 512 + k / 8) 0).toNat (k % 8) true : Nat) := by
          rw [ev]; exact bit_add ⟨_, hx⟩ ⟨k % 8, by omega⟩ hb
        have ex : (.int .u8 ((setB (L.getD (98 * 512 + k / 8) 0).toNat (k % 8) true : Nat) : Int) : Value) = bv (UInt8.ofNat (setB (L.getD (98 * 512 + k / 8) 0).toNat (k % 8) true)) := by
          show _ = Value.int .u8 _
          rw [UInt8.toNat_ofNat_of_lt' (setB_lt' hx (by omega) true)]
        refine ⟨⟨k + 1, putBit L (98 * 4096 + k) true, by omega, hk', f16.trans d18.fr fun _ _ e => e, d18.own, ?_, I.hit hn (by omega) he⟩, by show ((N : Int) - ((k : Int) + 1)).toNat < ((N : Int) - (k : Int)).toNat; omega⟩
        rw [d18.rd, r16, ob, ex, ← List.map_set, Nat.zero_add]
        unfold putBit
        rw [show (98 * 4096 + k) / 8 = 98 * 512 + k / 8 by omega, show (98 * 4096 + k) % 8 = k % 8 by omega]
  · have ek : N = k := by omega
    subst ek
    exact hK h2.size L h16 (F8.trans f16 fun b hb y => by omega) I o16 (by omega) r16
end Go.Proofs.YtcdpakjhjmchhaaGreatDoor.Fi
namespace Go.Proofs.YtcdpakjhjmchhaaGreatDoor.Fi
open Go Go.Proofs Go.Proofs.YtcdpakjhjmchhaaGreatDoor.Wx Go.Proofs.YtcdpakjhjmchhaaGreatDoor.Hp Go.Proofs.YtcdpakjhjmchhaaGreatDoor.W Go.Proofs.YtcdpakjhjmchhaaGreatDoor.Ad Go.Proofs.YtcdpakjhjmchhaaGreatDoor.Tm Go.Proofs.YtcdpakjhjmchhaaGreatDoor.Bt Go.Proofs.YtcdpakjhjmchhaaGreatDoor.Spc Go.Proofs.YtcdpakjhjmchhaaGreatDoor.Re Go.Proofs.YtcdpakjhjmchhaaGreatDoor.Av
open Go.Proofs.YtcdpakjhjmchhaaGreatDoor.Hd (ints)
open Go.Proofs.YtcdpakjhjmchhaaGreatDoor.In (Glo ints_length ints_one mayR decA encR encR_length decOk getR_enc wordOk kindOk)
open Go.Proofs.YtcdpakjhjmchhaaGreatDoor.Ino (getM putM Cok getM_length rblk rat)
open Go.Proofs.YtcdpakjhjmchhaaGreatDoor.Bm (findM cutM addM allM num num4 nS Wf Tight path find_ok many Im edge Z0 fresh_av rowN tabN allS_ok tabs_eq Dom rowN_fst mem_rowN)
def bytesOf (Z : Nat → Txt) (R : List Int) (off m : Nat) : Txt := (List.range m).map fun i => byteAt Z R (off + i)
theorem Fs.read {n i j off m : Nat} {Z : Nat → Txt} {T : TM} {R S : List Int} (f : Fs n Z T i R j S) (d : Dim n) : readM T (geoN n) i off m = (bytesOf Z R off (min (m : Int) (R.getD 2 0 - off)).toNat, 0) := by
  obtain ⟨_, _, q2, q3⟩ := f.fi
  unfold readM
  rw [if_neg (by omega), f.get d, if_neg (fun y => y rfl)]
  show (if (off : Int) ≥ R.getD 2 0 then (([] : Txt), (0 : Int)) else readGo T (geoN n) R ((off : Int)).toNat (min (m : Int) (R.getD 2 0 - off)).toNat (min (m : Int) (R.getD 2 0 - off)).toNat 0 []) = _
  by_cases h : (off : Int) ≥ R.getD 2 0
  · rw [if_pos h, show (min (m : Int) (R.getD 2 0 - off)).toNat = 0 by omega]; rfl
  · rw [if_neg h, Int.toNat_natCast]
    exact readGo_ok f.av f.w (by omega) _ 0 [] (by omega) (Nat.zero_le _) rfl
theorem dom_row (f : Nat → Nat) : Dom f (rowN f 0 16522) := by
  refine ⟨rowN_fst 16522 0, fun p hp => ?_, fun k hk => ?_⟩
  · obtain ⟨x, _, h2, _, rfl⟩ := (mem_rowN 16522 0).mp hp
    exact ⟨by show (0 : Int) ≤ (x : Int); omega, by show (x : Int) < 16522; omega⟩
  · rw [List.mem_map]
    constructor
    · rintro ⟨p, hp, e⟩
      obtain ⟨x, _, h2, h3, rfl⟩ := (mem_rowN 16522 0).mp hp
      have e : (x : Int) = (k : Int) := e
      have : x = k := by omega
      rw [← this]; exact h3
    · intro h
      exact ⟨_, (mem_rowN 16522 0).mpr ⟨k, Nat.zero_le _, by omega, h, rfl⟩, rfl⟩
theorem all_len {n : Nat} {Z : Nat → Txt} {R : List Int} {T : TM} (a : Av n Z T) (w : Wf n Z R) : (allM T (geoN n) R).2.2 = 0 ∧ (allM T (geoN n) R).1.length + (allM T (geoN n) R).2.1.length = many Z R := by
  have e := allS_ok a w
  rw [tabs_eq] at e
  rw [e]
  exact ⟨rfl, (dom_row (num Z R)).split.symm⟩
theorem cnt_le' (p : Nat → Bool) : ∀ m, cnt p m ≤ m
  | 0 => Nat.le_refl _
  | m + 1 => by
    have := cnt_le' p m
    show cnt p m + (if p m = true then 1 else 0) ≤ m + 1
    split <;> omega
theorem many_le (Z : Nat → Txt) (R : List Int) : many Z R ≤ 16652 := cnt_le' _ _
theorem Fs.blocks {n i j : Nat} {Z : Nat → Txt} {T : TM} {R S : List Int} (f : Fs n Z T i R j S) (d : Dim n) : blocksM T (geoN n) i = (((many Z R : Nat) : Int), 0) := by
  obtain ⟨e1, e2⟩ := all_len f.av f.w
  unfold blocksM
  rw [f.get d, if_neg (fun y => y rfl), if_neg (fun y => y e1), ← e2]
  refine Prod.ext ?_ rfl
  show ((allM T (geoN n) R).1.length : Int) + ((allM T (geoN n) R).2.1.length : Int) = (((allM T (geoN n) R).1.length + (allM T (geoN n) R).2.1.length : Nat) : Int)
  omega
def dirR : List Int := [2, 2, 0, 0, 0, 0, 0, 0, 0, 0, 0, 0, 0, 0, 0]
def filR : List Int := [1, 1, 0, 0, 0, 0, 0, 0, 0, 0, 0, 0, 0, 0, 0]
def recs0 : List (List Int) := [dirR, filR, filR]
theorem getD_putU {Z W : Txt} {o : Nat} (h : o + W.length ≤ Z.length) (p : Nat) : (putU Z o W).getD p 0 = if o ≤ p ∧ p < o + W.length then W.getD (p - o) 0 else Z.getD p 0 := by
  have lo : (Z.take o).length = o := by rw [List.length_take]; omega
  unfold putU
  rw [List.getD_eq_getElem?_getD, List.append_assoc]
  by_cases h1 : p < o
  · rw [List.getElem?_append_left (by omega), List.getElem?_take_of_lt h1, if_neg (by omega), List.getD_eq_getElem?_getD]
  · rw [List.getElem?_append_right (by omega), lo]
    by_cases h2 : p - o < W.length
    · rw [List.getElem?_append_left h2, if_pos (by omega), List.getD_eq_getElem?_getD]
    · rw [List.getElem?_append_right (by omega), List.getElem?_drop, if_neg (by omega), List.getD_eq_getElem?_getD, show o + W.length + (p - o - W.length) = p by omega]
/-- 64 bytes of a block of the disk -/
theorem slice0 {n k : Nat} {L : Txt} (d : Dim n) (hL : L.length = 512 * n) (h : k < (geoN n).count) : ((Z0 L (blkZ n k)).drop (64 * (k % 8))).take 64 = (List.range 64).map fun p => L.getD (512 * (geoN n).inodes + 64 * k + p) 0 := by
  have r := blkZ_rng d h
  unfold Z0
  refine List.ext_getElem ?_ fun p h1 h2 => ?_
  · rw [List.length_take, List.length_drop, List.length_take, List.length_drop, hL, List.length_map, List.length_range]; omega
  · rw [List.length_map, List.length_range] at h2
    rw [List.getElem_map, List.getElem_range, List.getElem_take, List.getElem_drop, List.getElem_take, List.getElem_drop]
    have e : blkZ n k * 512 + (64 * (k % 8) + p) = 512 * (geoN n).inodes + 64 * k + p := by unfold blkZ; omega
    rw [← e, List.getD_eq_getElem?_getD, List.getElem?_eq_getElem (by omega)]; rfl
theorem recZ0 {n k : Nat} {L : Txt} (d : Dim n) (hn : n < 4428) (I : Ib n (recs0.flatMap encR) (4096 * ((geoN n).inodes - 98)) L) (h1 : 1 ≤ k) (h : k < (geoN n).count) : recZ n (Z0 L) k = if k = 1 then (dirR, 0) else if k ≤ 3 then (filR, 0) else (List.replicate 15 0, 0) := by
  have hL := I.im.len
  have hlo := d.lo
  have hino : (geoN n).inodes = 98 + (n + 4095) / 4096 := rfl
  have hc : (geoN n).count = 8 * (n / 64) := rfl
  have lW : (recs0.flatMap encR).length = 192 := rfl
  have e : ((Z0 L (blkZ n k)).drop (64 * (k % 8))).take 64 = (List.range 64).map fun p => if 64 ≤ 64 * k + p ∧ 64 * k + p < 256 then (recs0.flatMap encR).getD (64 * k + p - 64) 0 else 0 := by
    rw [slice0 d hL h]
    refine List.map_congr_left fun p hp => ?_
    rw [I.rest _ (by omega), getD_putU (by rw [lW, List.length_replicate]; omega), lW]
    by_cases hx : 64 ≤ 64 * k + p ∧ 64 * k + p < 256
    · rw [if_pos (by omega), if_pos hx]; congr 1; omega
    · rw [if_neg (by omega), if_neg hx, List.getD_eq_getElem?_getD, List.getElem?_replicate]
      split <;> rfl
  unfold recZ
  rw [e]
  by_cases k1 : k = 1
  · subst k1; rw [if_pos rfl]; decide +kernel
  · rw [if_neg k1]
    by_cases k2 : k = 2
    · subst k2; rw [if_pos (by decide)]; decide +kernel
    · by_cases k3 : k = 3
      · subst k3; rw [if_pos (by decide)]; decide +kernel
      · rw [if_neg (by omega)]
        have : (List.range 64).map (fun p => if 64 ≤ 64 * k + p ∧ 64 * k + p < 256 then (recs0.flatMap encR).getD (64 * k + p - 64) 0 else 0) = List.replicate 64 0 := by
          refine List.ext_getElem (by simp) fun p h1 h2 => ?_
          rw [List.getElem_map, List.getElem_range, List.getElem_replicate, if_neg (by omega)]
        rw [this]; decide +kernel
end Go.Proofs.YtcdpakjhjmchhaaGreatDoor.Fi
namespace Go.Proofs.YtcdpakjhjmchhaaGreatDoor.Fi
open Go Go.Proofs Go.Proofs.YtcdpakjhjmchhaaGreatDoor.Wx Go.Proofs.YtcdpakjhjmchhaaGreatDoor.Hp Go.Proofs.YtcdpakjhjmchhaaGreatDoor.W Go.Proofs.YtcdpakjhjmchhaaGreatDoor.Ad Go.Proofs.YtcdpakjhjmchhaaGreatDoor.Tm Go.Proofs.YtcdpakjhjmchhaaGreatDoor.Bt Go.Proofs.YtcdpakjhjmchhaaGreatDoor.Spc Go.Proofs.YtcdpakjhjmchhaaGreatDoor.Re Go.Proofs.YtcdpakjhjmchhaaGreatDoor.Av
open Go.Proofs.YtcdpakjhjmchhaaGreatDoor.Hd (ints)
open Go.Proofs.YtcdpakjhjmchhaaGreatDoor.In (Glo ints_length ints_one mayR decA encR encR_length)
open Go.Proofs.YtcdpakjhjmchhaaGreatDoor.Ino (getM putM Cok getM_length rblk rat)
open Go.Proofs.YtcdpakjhjmchhaaGreatDoor.Bm (num nS Wf Tight path path_self many miss Im edge Z0 fresh_av num_nil tight_nil wf_nil miss_zero path_chain chain_nS)
theorem countP_lt (ql : List Nat) (m : Nat) : ql.countP (fun s => decide (s < m)) + (if m ∈ ql then 1 else 0) ≤ ql.countP (fun s => decide (s < m + 1)) := by
  induction ql with
  | nil => simp
  | cons x r ih =>
    rw [List.countP_cons, List.countP_cons]
    by_cases e : x = m
    · subst e
      rw [if_neg (by simp), if_pos (List.mem_cons_self ..), if_pos (show decide (x < x + 1) = true by simp)]
      split at ih <;> omega
    · have h1 : (m ∈ x :: r) ↔ m ∈ r := by rw [List.mem_cons]; exact ⟨fun h => h.resolve_left fun y => e y.symm, .inr⟩
      have h2 : decide (x < m) = decide (x < m + 1) := decide_eq_decide.mpr (by omega)
      rw [h2]
      simp only [h1]
      split at ih <;> split <;> omega
theorem cnt_add_le {p q : Nat → Bool} (ql : List Nat) : ∀ m, (∀ s, s < m → p s = true → q s = true ∨ s ∈ ql) → cnt p m ≤ cnt q m + ql.countP (fun s => decide (s < m))
  | 0, _ => Nat.zero_le _
  | m + 1, h => by
    have ih := cnt_add_le ql m fun s hs => h s (by omega)
    have c := countP_lt ql m
    show cnt p m + (if p m = true then 1 else 0) ≤ cnt q m + (if q m = true then 1 else 0) + _
    by_cases hp : p m = true
    · rcases h m (by omega) hp with hq | hq
      · rw [if_pos hp, if_pos hq]; split at c <;> omega
      · rw [if_pos hq] at c
        rw [if_pos hp]; split <;> omega
    · rw [if_neg hp]; split <;> split at c <;> omega
theorem many_add {Z Z1 : Nat → Txt} {R R1 : List Int} (ql : List Nat) (h : ∀ s, s < nS → num Z1 R1 s ≠ 0 → num Z R s ≠ 0 ∨ s ∈ ql) : many Z1 R1 ≤ many Z R + ql.length := by
  unfold many
  have := cnt_add_le (p := fun s => decide (num Z1 R1 s ≠ 0)) (q := fun s => decide (num Z R s ≠ 0)) ql nS fun s hs hp => (h s hs (of_decide_eq_true hp)).imp decide_eq_true id
  have c := List.countP_le_length (p := fun s => decide (s < nS)) (l := ql)
  omega
theorem kin_le {n : Nat} {Z1 : Nat → Txt} {T1 : TM} {A : List Int} (av : Av n Z1 T1) (ql : List Int) (h : ∀ x ∈ ks T1, x ∈ A ∨ x < (geoN n).inodes ∨ x ∈ ql) : (ks T1).length ≤ A.length + ((geoN n).inodes - 98) + ql.length := by
  have := nodup_len (m := A ++ ((List.range ((geoN n).inodes - 98)).map fun k => ((98 + k : Nat) : Int)) ++ ql) av.keys fun x hx => by
    rw [List.mem_append, List.mem_append]
    rcases h x hx with h | h | h
    · exact .inl (.inl h)
    · have := (av.rng x hx).1
      exact .inl (.inr (List.mem_map.mpr ⟨(x - 98).toNat, List.mem_range.mpr (by omega), by omega⟩))
    · exact .inr h
  rw [List.length_append, List.length_append, List.length_map, List.length_range] at this
  exact this
theorem miss_len (Z : Nat → Txt) (R : List Int) : ∀ l : List Nat, miss Z R l ≤ l.length
  | [] => Nat.le_refl _
  | s :: r => by
    have := miss_len Z R r
    show (if num Z R s = 0 then 1 else 0) + miss Z R r ≤ r.length + 1
    split <;> omega
theorem path_len (k : Nat) : (path k).length ≤ 3 := by
  unfold path
  split
  · simp
  · split <;> simp
/-- a write inside of one block goes where there is room -/
theorem write_one {n i j off : Nat} {Z : Nat → Txt} {T : TM} {R S : List Int} {s : Txt} (d : Dim n) (f : Fs n Z T i R j S) (ho : off % 512 + s.length ≤ 512) (hq : off < 8459264) (hs : s ≠ []) (hk : (ks T).length + ((geoN n).inodes - 98) + 3 < 87) (hf : 6 ≤ frees n Z) :
    ∃ Z' T' R', writeF T (geoN n) i off s = (T', 0) ∧ Wrote n Z T i R j S off s Z' T' R' := by
  have hl : 0 < s.length := List.length_pos_iff.mpr hs
  have one : ∀ b, b < s.length → (off + b) / 512 = off / 512 := fun b hb => by omega
  rcases writeF_ok (off := off) (s := s) d f (by omega) hs with h | ⟨_, T1, Z1, R1, ps, a, ha, W, hx⟩ | ⟨_, T1, Z1, R1, ps, a, ha, W, hx⟩
  · exact h
  · exfalso
    have := kin_le (A := ks T) W.av ((path (off / 512)).map fun q => ((num Z1 R1 q : Nat) : Int)) fun x hx => by
      rcases W.kin x hx with h | h | ⟨q, _, ⟨k, hk, hp⟩, ex⟩
      · exact .inl h
      · exact .inr (.inl h)
      · obtain ⟨b, hb, rfl⟩ := (W.idx k).mp hk
        rw [one b (by omega)] at hp
        exact .inr (.inr (List.mem_map.mpr ⟨q, hp, ex.symm⟩))
    rw [List.length_map] at this
    have := path_len (off / 512)
    omega
  · exfalso
    have hm := many_add (Z := Z) (R := R) (Z1 := Z1) (R1 := R1) (path (off / 512)) fun x hx h => ((W.gr.dom x hx).mp h).imp id fun ⟨k, hk, hp⟩ => by
      obtain ⟨b, hb, rfl⟩ := (W.idx k).mp hk
      rw [one b (by omega)] at hp; exact hp
    have ht := W.gr.tot
    have h3 := path_len (off / 512)
    have h4 := miss_len Z1 R1 (path ((off + a) / 512))
    have h5 := path_len ((off + a) / 512)
    omega
theorem cnt_from (a : Nat) : ∀ m, cnt (fun j => decide (a ≤ j)) m = m - a
  | 0 => by rw [Nat.zero_sub]; rfl
  | m + 1 => by
    show cnt (fun j => decide (a ≤ j)) m + (if decide (a ≤ m) = true then 1 else 0) = _
    rw [cnt_from a m]
    by_cases h : a ≤ m
    · rw [if_pos (decide_eq_true h)]; omega
    · rw [if_neg (by rw [decide_eq_true_eq]; exact h)]; omega
theorem cnt_none {p : Nat → Bool} : ∀ m, (∀ s, s < m → p s = false) → cnt p m = 0
  | 0, _ => rfl
  | m + 1, h => by
    show cnt p m + (if p m = true then 1 else 0) = 0
    rw [cnt_none m fun s hs => h s (by omega), h m (by omega)]; rfl
theorem fil_zero : ∀ i, 3 ≤ i → i < 15 → filR.getD i 0 = 0 := fun i h1 h2 => by
  have : ∀ i : Fin 15, 3 ≤ i.val → filR.getD i.val 0 = 0 := by decide
  exact this ⟨i, h2⟩ h1
theorem fs0 {n : Nat} {L : Txt} (d : Dim n) (hn : n < 4428) (I : Ib n (recs0.flatMap encR) (4096 * ((geoN n).inodes - 98)) L) : Fs n (Z0 L) ⟨fresh (chunks L), [], [], false⟩ 2 filR 3 filR := by
  have hlo := d.lo
  have hd := d.data
  have hc : (geoN n).count = 8 * (n / 64) := rfl
  have hino : (geoN n).inodes = 98 + (n + 4095) / 4096 := rfl
  have z := num_nil (Z := Z0 L) (R := filR) fil_zero
  have m0 : many (Z0 L) filR = 0 := by
    unfold many
    exact cnt_none _ fun s hs => decide_eq_false fun y => y (z s hs)
  have fl : FileR filR := ⟨rfl, ⟨by decide, by decide⟩, by decide, by decide⟩
  refine ⟨fresh_av I.im.len, wf_nil rfl fil_zero, wf_nil rfl fil_zero, tight_nil fil_zero, tight_nil fil_zero, fun s _ hs _ h => absurd (z s hs) h, ?_, ?_, fl, fl, ⟨by decide, by omega⟩, ⟨by decide, by omega⟩, by decide, ?_⟩
  · rw [recZ0 d hn I (by decide) (by omega), if_neg (by decide), if_pos (by decide)]
  · rw [recZ0 d hn I (by decide) (by omega), if_neg (by decide), if_pos (by decide)]
  · have : frees n (Z0 L) = n - (geoN n).data := by
      rw [← cnt_from]
      unfold frees
      refine cnt_congr fun j hj => ?_
      unfold isFree
      rw [I.im.bit ⟨hlo, hn⟩ hj]
      unfold Bm.lowU edge
      rw [decide_eq_true hj, decide_eq_true (show j < 4096 * ((geoN n).inodes - 98) by omega), decide_eq_false (show ¬ n ≤ j by omega)]
      by_cases h : (geoN n).data ≤ j
      · rw [decide_eq_true h, decide_eq_false (by omega)]; rfl
      · rw [decide_eq_false h, decide_eq_true (by omega)]; rfl
    rw [m0, this]; omega
end Go.Proofs.YtcdpakjhjmchhaaGreatDoor.Fi
namespace Go.Proofs.YtcdpakjhjmchhaaGreatDoor.Fi
open Go Go.Proofs Go.Proofs.YtcdpakjhjmchhaaGreatDoor.Wx Go.Proofs.YtcdpakjhjmchhaaGreatDoor.Hp Go.Proofs.YtcdpakjhjmchhaaGreatDoor.W Go.Proofs.YtcdpakjhjmchhaaGreatDoor.Ad Go.Proofs.YtcdpakjhjmchhaaGreatDoor.Tm Go.Proofs.YtcdpakjhjmchhaaGreatDoor.Spc Go.Proofs.YtcdpakjhjmchhaaGreatDoor.Re Go.Proofs.YtcdpakjhjmchhaaGreatDoor.Av Go.Proofs.YtcdpakjhjmchhaaGreatDoor.Rg
open Go.Proofs.YtcdpakjhjmchhaaGreatDoor.Hd (ints)
open Go.Proofs.YtcdpakjhjmchhaaGreatDoor.In (Glo ints_length ints_one mayR decA)
open Go.Proofs.YtcdpakjhjmchhaaGreatDoor.Ino (getM putM Cok getM_length)
open Go.Proofs.YtcdpakjhjmchhaaGreatDoor.Bm (findM cutM addM allM pcellA write_un cutM_un addM_un setM walkA)
theorem Add_at {h : Heap} {F : Nat → Prop} {t d : Option Addr} {T T' : TM} {n : Nat} {R R' : List Int} {k v er : Int} {K : Value → Heap → Prop} (gl : Glo h) (dm : Dim n) (x : Tx h F t d T) (live : T.over = false) (hR : R.length = 15) (g0 : ∀ b, b < 1 → ¬ F b) (hu : T.undo.length < 700000000) (e : addM T (geoN n) R k = (T', R', v, er))
    (hK : ∀ h' F', Fr F h h' → Gw h F h' F' → Tx h' F' t d T' → K (.tuple #[.agg ⟨ints R'⟩, .int .i64 v, .int .i64 er]) h') : C.bmap_Add t (geoN n).v (ints R) k h K := by
  refine Bm.Add_spec gl dm x live hR g0 hu ?_
  rw [e]; exact hK
/-- what holds between the parts -/
structure Wj (hb0 : Heap) (F : Nat → Prop) (t d : Option Addr) (g : G) (off : Nat) (s : Txt) (T : TM) (R : List Int) (xb lb : Nat) (L : Loop) (a : Nat) (hh : Heap) (F' : Nat → Prop) (T' : TM) (R' : List Int) (k : Nat) : Prop where
  fr : Fr (fun b => F b ∨ b = xb ∨ b = lb) hb0 hh
  gw : Gw hb0 F hh F'
  x : Tx hh F' t d T'
  live : T'.over = false
  lR : R'.length = 15
  rx : rd hh xb = ints R'
  ox : Own hh xb
  on : LoopOn hh lb L .ready none
  hk : s.length ≤ a + k
  eq : writeGo g off s s.length 0 T R = writeGo g off s k a T' R'
  un : T'.undo.length ≤ T.undo.length + 10 * a
  ha : a ≤ s.length
theorem Write_spec {h : Heap} {F : Nat → Prop} {t d : Option Addr} {T : TM} {n : Nat} {i off : Int} {s : Txt} {K : Value → Heap → Prop} (gl : Glo h) (dm : Dim n) (x : Tx h F t d T) (live : T.over = false) (g0 : ∀ b, b < 1 → ¬ F b) (hu : T.undo.length < 500000000) (ho2 : off ≤ 9223372036854775807) (hs2 : s.length ≤ 9223372036854775807)
    (hK : ∀ h' F', Fr F h h' → Gw h F h' F' → Tx h' F' t d (writeF T (geoN n) i off s).1 → K (.int .i64 (writeF T (geoN n) i off s).2) h') : C.file_Write t (geoN n).v i off (mkStr s) h K := by
  have Flt := fun b (hb : F b) => x.lt hb
  have gl1 := gl.lt
  have same : ∀ e h', Fr No h h' → writeF T (geoN n) i off s = (T, e) → K (.int .i64 e) h' := fun e h' f e0 => by
    rw [e0] at hK
    exact hK h' F (f.mono fun _ _ y => y.elim) (Gw.refl f.size fun b hb => x.lt hb) (x.no f)
  refine file_Write.ok (New.intro fun h2 n2 => New.intro fun h3 n3 => New.intro fun h4 n4 => New.intro fun h5 n5 => ?_)
  have z2 := n2.size
  have z3 := n3.size
  have z4 := n4.size
  have z5 := n5.size
  have F5 : Fr No h h5 := ((n2.fr.new n3).new n4).new n5
  refine cd (fun hneg => put_e n5.own n5.rd fun h6 d6 => ⟨_, rdc d6.rd rfl, same 1 h6 (F5.did d6 fun hl => by omega) (by unfold writeF; rw [if_pos hneg])⟩) fun hneg => ?_
  have rt5 : rd h5 h.size = [.pointer t] := (n5.at_ (by omega)).trans ((n4.at_ (by omega)).trans ((n3.at_ (by omega)).trans n2.rd))
  have rg5 : rd h5 h2.size = (geoN n).v := (n5.at_ (by omega)).trans ((n4.at_ (by omega)).trans n3.rd)
  have rs5 : rd h5 h3.size = [.string (mkStr s)] := (n5.at_ (by omega)).trans n4.rd
  have lR := getF_length T (geoN n) i
  refine ⟨t, rdc rt5 rfl, (geoN n).v, rfl, cellsAll rg5, get_spec (gl.no F5) (x.no F5) (cok dm) fun h7 f7 => ⟨_, _, rfl, NewRow.intro (by rw [ints_length, lR]) (ints_one _) rfl fun h9 n9 => ?_⟩⟩
  have z7 := f7.size
  have z9 := n9.size
  have F9 : Fr No h h9 := (F5.no f7).new n9
  have q9 : ∀ b, b < h5.size → rd h9 b = rd h5 b := fun b hb => (n9.at_ (by omega)).trans (f7.rd hb fun y => y)
  refine put_e (n9.ow (f7.own (by omega) (fun y => y) n5.own)) ((q9 _ (by omega)).trans n5.rd) fun h10 d10 => ⟨_, rdc d10.rd rfl, ?_⟩
  have z10 := d10.size
  have F10 : Fr No h h10 := F9.did d10 fun hl => by omega
  have q10 : ∀ b, b < h5.size → b ≠ h4.size → rd h10 b = rd h5 b := fun b hb hn => (d10.at_ (by omega) hn).trans (q9 b hb)
  have ret : ∀ v, writeF T (geoN n) i off s = (T, v) → Put ⟨h4.size, 0, none⟩ (.int .i64 v) h10 fun h9 => ∃ (res : Int), cellOf h9 ⟨h4.size, 0, none⟩ = some (.int .i64 res) ∧ K (.int .i64 res) h9 := fun v hv =>
    put_e d10.own d10.rd fun h9 d9 => ⟨_, rdc d9.rd rfl, same v h9 (F10.did d9 fun hl => by omega) hv⟩
  refine cn (fun he => ⟨_, rdc d10.rd rfl, ret _ (by unfold writeF; rw [if_neg hneg, if_pos he])⟩) fun he => ?_
  have rs10 : rd h10 h3.size = [.string (mkStr s)] := (q10 _ (by omega) (by omega)).trans rs5
  have rt10 : rd h10 h.size = [.pointer t] := (q10 _ (by omega) (by omega)).trans rt5
  refine ⟨_, rdc rs10 rfl, ?_⟩
  rw [show (mkStr s).size = s.length from rfl, wrap_i64 (n := 8459264 - off) (by omega) (by omega)]
  refine cd (fun hbig => ret _ (by unfold writeF; rw [if_neg hneg, if_neg (fun y => y he), if_pos hbig])) fun hbig => ⟨_, rdc rs10 rfl, ?_⟩
  rw [toList_mkStr, toList_mkStr]
  by_cases hnil : s = []
  · exact ct (by rw [hnil]; rfl) (ret _ (by unfold writeF; rw [if_neg hneg, if_neg (fun y => y he), if_neg hbig, if_pos hnil]))
  refine cf (by rw [beq_eq_false_iff_ne]; exact hnil) ?_
  have ec : writeF T (geoN n) i off s = undoM T (bodyW T (geoN n) i (getF T (geoN n) i).1 off.toNat s) := by unfold writeF; rw [if_neg hneg, if_neg (fun y => y he), if_neg hbig, if_neg hnil]
  rw [ec] at hK
  clear same ret ec
  obtain ⟨ofs, eo⟩ : ∃ k : Nat, off = k := ⟨off.toNat, by omega⟩
  rw [eo, Int.toNat_natCast] at hK
  have hb : ofs + s.length ≤ 8459264 := by omega
  have rx10 : rd h10 h7.size = ints (getF T (geoN n) i).1 := (d10.at_ (by omega) (by omega)).trans n9.rd
  have ox10 : Own h10 h7.size := d10.ow n9.own
  clear rx10
  have rx10 : rd h10 h7.size = ints (getF T (geoN n) i).1 := (d10.at_ (by omega) (by omega)).trans n9.rd
  generalize (getF T (geoN n) i).1 = R at hK lR rx10 n9
  refine ⟨t, rdc rt10 rfl, undo_spec (x.no F10) fun ub tb mb h14 f14 l1 l2 l3 ud => ⟨_, [], _, rfl, _, rdc ((f14.rd (by omega) fun y => y).trans rs10) rfl, ?_⟩⟩
  have z14 := f14.size
  have lud := ud.lt
  rw [eo, show (mkStr s).size = s.length from rfl]
  refine file_parts.ok (New.intro fun h15a n15a => New.intro fun h15 n15 => ⟨_, rfl, fun L rounds => ?_⟩)
  have z15a := n15a.size
  have z15 := n15.size
  have F15 : Fr No h h15 := ((F10.no f14).new n15a).new n15
  have Fb := beginL_fr h15 L
  have on0 := beginL_on h15 L
  have d0 := beginL_d h15 L
  have zb : (beginL h15 L).size = h15.size + 2 := beginL_size _ _
  have F0 : Fr No h (beginL h15 L) := F15.no Fb
  have f10b : Fr No h10 (beginL h15 L) := ((f14.new n15a).new n15).no Fb
  have f14b : Fr No h14 (beginL h15 L) := ((Fr.refl No h14).new n15a |>.new n15).no Fb
  have qb : ∀ b, b < h10.size → rd (beginL h15 L) b = rd h10 b := fun b hb => f10b.rd hb fun y => y
  have rt : rd (beginL h15 L) h.size = [.pointer t] := (qb _ (by omega)).trans rt10
  have rg : rd (beginL h15 L) h2.size = (geoN n).v := (qb _ (by omega)).trans ((q10 _ (by omega) (by omega)).trans rg5)
  have rs : rd (beginL h15 L) h3.size = [.string (mkStr s)] := (qb _ (by omega)).trans rs10
  have re : rd (beginL h15 L) h4.size = [.int .i64 _] := (qb _ (by omega)).trans d10.rd
  have oe : Own (beginL h15 L) h4.size := f10b.own (by omega) (fun y => y) d10.own
  have rx : rd (beginL h15 L) h7.size = ints R := (qb _ (by omega)).trans rx10
  have ox : Own (beginL h15 L) h7.size := f10b.own (by omega) (fun y => y) ox10
  have rco : rd (beginL h15 L) h14.size = [.int .i64 (ofs : Int)] := (Fb.rd (by omega) fun y => y).trans ((n15.at_ (by omega)).trans n15a.rd)
  have rcn : rd (beginL h15 L) h15a.size = [.int .i64 (s.length : Int)] := (Fb.rd (by omega) fun y => y).trans n15.rd
  have udb : Ud (beginL h15 L) ub tb mb h4.size t T.mark.1 := ud.fr f14b (fun y => y) (fun y => y) fun y => y
  have glb := gl.no F0
  have xb := x.no F0
  generalize hbe : beginL h15 L = hb0 at *
  obtain ⟨lb, el⟩ : ∃ lb, h15.size + 1 = lb := ⟨_, rfl⟩
  rw [el] at rounds on0 ⊢
  obtain ⟨db, ed⟩ : ∃ db, h15.size = db := ⟨_, rfl⟩
  rw [ed] at d0 ⊢
  obtain ⟨xbk, ex⟩ : ∃ xbk, h7.size = xbk := ⟨_, rfl⟩
  have hxb : h5.size ≤ xbk ∧ xbk < h14.size ∧ xbk ≠ ub ∧ xbk ≠ tb ∧ xbk ≠ mb := by omega
  have nF : ∀ b, h.size ≤ b → ¬ F b := fun b hb y => by have := Flt b y; omega
  show C.file_parts_c1 (.func (.yield lb) #[] #[]) (some ⟨h15a.size, 0, none⟩) (some ⟨h14.size, 0, none⟩) hb0 _
  -- what the call has about it when the loop is left
  have nG : ∀ b, h.size ≤ b → b ≠ h7.size → b ≠ lb → b ≠ h4.size → b ≠ db → ¬ (F b ∨ b = h7.size ∨ b = lb ∨ b = h4.size ∨ b = db) := fun b h1 h2 h3 h4 h5 y => by
    rcases y with y | y
    · exact nF b h1 y
    · omega
  have mkEnv : ∀ hh F' e, Fr (fun b => F b ∨ b = h7.size ∨ b = lb ∨ b = h4.size ∨ b = db) hb0 hh → Gw hb0 F hh F' → Own hh h4.size → rd hh h4.size = [.int .i64 e] → Env h F t T.mark.1 (geoN n) h2.size h4.size ub tb mb hh F' e := fun hh F' e f w o r => by
    have n0 : ∀ b, h.size ≤ b → b < hb0.size → ¬ F' b := fun b h1 h2 y => nF b h1 ((w.old b h2).mp y)
    refine ⟨gl1, g0, (F0.mono fun _ _ y => y.elim).trans f fun b hb y => ?_, ⟨fun b hb => w.old b (by have := F0.size; omega), w.lt⟩, glb.fr f fun b hb y => ?_, (f.rd (by omega) (nG _ (by omega) (by omega) (by omega) (by omega) (by omega))).trans rg, o, r,
      udb.fr f (nG _ (by omega) (by omega) (by omega) (by omega) (by omega)) (nG _ (by omega) (by omega) (by omega) (by omega) (by omega)) (nG _ (by omega) (by omega) (by omega) (by omega) (by omega)),
      ⟨n0 _ (by omega) (by omega), n0 _ (by omega) (by omega), n0 _ (by omega) (by omega), n0 _ (by omega) (by omega), n0 _ (by omega) (by omega)⟩, ⟨by omega, by omega, by omega, by omega⟩, by omega⟩
    · rcases y with y | y
      · exact y
      · omega
    · rcases y with y | y
      · exact g0 b hb y
      · omega
  have fin : ∀ h34 F' T' e, Fr (fun b => F b ∨ b = h7.size ∨ b = lb ∨ b = h4.size) hb0 h34 → Gw hb0 F h34 F' → Tx h34 F' t d T' → Own h34 h4.size → rd h34 h4.size = [.int .i64 e] → T'.undo.length < 1000000000 → undoM T (bodyW T (geoN n) i R ofs s) = (if e ≠ 0 then (T'.back T.mark.1).1 else T', e) →
      EndD db h34 fun h35 => DCallsV Tryz.prog (.func (.func 109) ⟨[]⟩ ⟨undoV ub tb mb⟩) [] h35 fun h36 => ∃ (res5 : Int), cellOf h36 ⟨h4.size, 0, none⟩ = some (.int .i64 res5) ∧ K (.int .i64 res5) h36 := fun h34 F' T' e f w x' o r hu' he => by
    rw [he] at hK
    have n0 : ∀ b, h.size ≤ b → b < hb0.size → ¬ F' b := fun b h1 h2 y => nF b h1 ((w.old b h2).mp y)
    refine endD_intro ((f.same db (by omega) fun y => ?_).trans d0) fun h35 z35 f35 => ?_
    · rcases y with y | y
      · exact nF _ (by omega) y
      · omega
    have f' : Fr (fun b => F b ∨ b = h7.size ∨ b = lb ∨ b = h4.size ∨ b = db) hb0 h35 := (f.mono fun b _ y => by rcases y with y | y | y | y <;> simp [y]).trans f35 fun b _ y => .inr (.inr (.inr (.inr y)))
    have E := mkEnv h35 F' e f' ⟨w.old, fun b hb => by rw [z35]; exact w.lt b hb⟩ (f35.own o.lt (by omega) o) ((f35.rd o.lt (by omega)).trans r)
    exact E.leave (x'.fr f35 fun b hb y => n0 _ (by omega) (by omega) (y ▸ hb)) hu' fun h' f' g' x' => hK h' F' f' g' x'
  -- the loop is left with an error
  have exitL : ∀ h23 F' T' e, LoopOn h23 lb L .busy none → Fr (fun b => F b ∨ b = h7.size ∨ b = lb ∨ b = h4.size) hb0 h23 → Gw hb0 F h23 F' → Tx h23 F' t d T' → Own h23 h4.size → rd h23 h4.size = [.int .i64 e] → T'.undo.length < 1000000000 → undoM T (bodyW T (geoN n) i R ofs s) = (if e ≠ 0 then (T'.back T.mark.1).1 else T', e) →
      SetL (setLoop h23 lb L .done (some .ret)) lb L .exhausted (some .ret) fun h37 => EndD db h37 fun h35 => DCallsV Tryz.prog (.func (.func 109) ⟨[]⟩ ⟨undoV ub tb mb⟩) [] h35 fun h36 => ∃ (res5 : Int), cellOf h36 ⟨h4.size, 0, none⟩ = some (.int .i64 res5) ∧ K (.int .i64 res5) h36 := fun h23 F' T' e on f w x' o r hu' he => by
    have n0 : ∀ b, h.size ≤ b → b < hb0.size → ¬ F' b := fun b h1 h2 y => nF b h1 ((w.old b h2).mp y)
    have t24 := turned (loop_lt on) L .done (some .ret)
    have z24 := t24.size
    have zl := loop_lt on
    refine setL_intro (by omega) fun h37 t37 => ?_
    have z37 := t37.size
    refine fin h37 F' T' e ((f.trans t24.fr fun b _ y => .inr (.inr (.inl y))).trans t37.fr fun b _ y => .inr (.inr (.inl y))) ⟨w.old, fun b hb => by have := w.lt b hb; omega⟩ ((x'.fr t24.fr fun b hb y => n0 _ (by omega) (by omega) (y ▸ hb)).fr t37.fr fun b hb y => n0 _ (by omega) (by omega) (y ▸ hb)) ?_ ?_ hu' he
    · exact t37.fr.own (by have := o.lt; omega) (by omega) (t24.fr.own o.lt (by omega) o)
    · exact (t37.fr.rd (by have := o.lt; omega) (by omega)).trans ((t24.fr.rd o.lt (by omega)).trans r)
  have bodyE : ∀ T' R' e, e ≠ 0 → writeGo (geoN n) ofs s s.length 0 T R = ((T', R'), e) → undoM T (bodyW T (geoN n) i R ofs s) = (if e ≠ 0 then (T'.back T.mark.1).1 else T', e) := fun T' R' e he h => by
    have eB : bodyW T (geoN n) i R ofs s = (T', e) := by unfold bodyW; rw [h, if_pos he]
    rw [eB, if_pos he]; exact if_pos he
  refine iter_spec (off := ofs) (n := s.length) (by omega) (fun a hh => ∃ F' T' R' k, Wj hb0 F t d (geoN n) ofs s T R h7.size lb L a hh F' T' R' k) (fun a hh J => ?_) (fun a hh h' J ha f' r' l' => ?_) ⟨F, T, R, s.length, Fr.refl _ _, Gw.refl (Nat.le_refl _) (fun b hb => xb.lt hb), xb, live, lR, rx, ox, on0, by omega, rfl, by omega, Nat.zero_le _⟩ fun hh J => ?_
  · obtain ⟨F', T', R', k, W⟩ := J
    have := W.fr.size
    refine ⟨(W.fr.rd (by omega) fun y => ?_).trans rcn, (W.fr.rd (by omega) fun y => ?_).trans rco, by omega, by omega⟩
    · rcases y with y | y
      · exact nF _ (by omega) y
      · omega
    · rcases y with y | y
      · exact nF _ (by omega) y
      · omega
  · -- a round
    obtain ⟨F', T', R', k, W⟩ := J
    have zf := W.fr.size
    have zf' := f'.size
    have lF' := fun b (hb : F' b) => W.x.lt hb
    obtain ⟨k, rfl⟩ : ∃ k', k = k' + 1 := ⟨k - 1, by have := W.hk; omega⟩
    refine rounds (partV ofs s.length a) h' _ (loopOn_fr W.on f' fun y => y) (NewRow.intro rfl (by intro v hv; simp only [partV, List.mem_cons, List.not_mem_nil, or_false] at hv; rcases hv with rfl | rfl | rfl | rfl <;> rfl) rfl fun h18 n18 => ⟨loopOn_fr (loopOn_fr W.on f' fun y => y) n18.fr fun y => y, setL_intro (by have := n18.size; omega) fun h19 t19 => ?_⟩)
    have z18 := n18.size
    have z19 := t19.size
    have n0 : ∀ b, h.size ≤ b → b < hb0.size → ¬ F' b := fun b h1 h2 y => nF b h1 ((W.gw.old b h2).mp y)
    have f19 : Fr (fun b => F b ∨ b = h7.size ∨ b = lb) hb0 h19 := ((W.fr.no f').new n18).trans t19.fr fun b hb y => .inr (.inr y)
    have nH : ∀ b, h.size ≤ b → b ≠ h7.size → b ≠ lb → ¬ (F b ∨ b = h7.size ∨ b = lb) := fun b h1 h2 h3 y => by
      rcases y with y | y
      · exact nF b h1 y
      · omega
    have q19 : ∀ b, h.size ≤ b → b < hb0.size → b ≠ h7.size → b ≠ lb → rd h19 b = rd hb0 b := fun b h0 hb h1 h2 => f19.rd hb (nH b h0 h1 h2)
    have r19 : rd h19 h'.size = partV ofs s.length a := (t19.fr.rd (by omega) (by omega)).trans n18.rd
    have p19 : rd h19 hh.size = rd h' hh.size := (t19.fr.rd (by omega) (by omega)).trans (n18.at_ (by omega))
    have x19 : Tx h19 F' t d T' := ((W.x.no f').no n18.fr).fr t19.fr fun b hb y => n0 _ (by omega) (by omega) (y ▸ hb)
    have gw19 : Gw hb0 F h19 F' := ⟨W.gw.old, fun b hb => x19.lt hb⟩
    have gl19 : Glo h19 := glb.fr f19 fun b hb y => by
      rcases y with y | y
      · exact g0 b hb y
      · omega
    have low19 : ∀ b, b < 1 → ¬ F' b := fun b hb y => g0 b hb ((W.gw.old b (by omega)).mp y)
    have rx19 : rd h19 h7.size = ints R' := (t19.fr.rd (by omega) (by omega)).trans ((n18.at_ (by omega)).trans ((f'.rd (by omega) fun y => y).trans W.rx))
    have ox19 : Own h19 h7.size := t19.fr.own (by omega) (by omega) (n18.ow (f'.own (by omega) (fun y => y) W.ox))
    have un19 := W.un
    have ha2 := W.ha
    have lF19 : ∀ b, hh.size ≤ b → ¬ F' b := fun b hb y => by have := lF' b y; omega
    refine ⟨t, rdc ((q19 _ (by omega) (by omega) (by omega) (by omega)).trans rt) rfl, (geoN n).v, rfl, cellsAll ((q19 _ (by omega) (by omega) (by omega) (by omega)).trans rg), _, by rw [ints_length, W.lR], cellsAll rx19, _, rda r19 rfl, ?_⟩
    obtain ⟨T2, R2, v, e, ea⟩ : ∃ T2 R2 v e, addM T' (geoN n) R' ((ofs + a) / 512 : Nat) = (T2, R2, v, e) := ⟨_, _, _, _, rfl⟩
    have l2 : R2.length = 15 := by have := addM_length (T := T') (g := geoN n) (k := ((ofs + a) / 512 : Nat)) W.lR; rw [ea] at this; exact this
    have un2 : T2.undo.length ≤ T'.undo.length + 9 := by have := addM_un (T := T') (g := geoN n) (R := R') (k := ((ofs + a) / 512 : Nat)); rw [ea] at this; exact this
    have ew := W.eq.trans (writeGo_add ha ea)
    refine Add_at gl19 dm x19 W.live W.lR low19 (by omega) ea fun h20 F2 f20 g20 x20 => ⟨_, _, _, rfl, NewRow.intro (by rw [ints_length, l2]) (ints_one _) rfl fun h22 n22 => ?_⟩
    have z20 := f20.size
    have z22 := n22.size
    have gw20 : Gw hb0 F h20 F2 := gw19.trans g20 f19.size
    have n2F : ∀ b, h.size ≤ b → b < hb0.size → ¬ F2 b := fun b h1 h2 y => nF b h1 ((gw20.old b h2).mp y)
    have fF : ∀ {G : Nat → Prop} {ha hb : Heap} {Fx : Nat → Prop}, Fr (fun b => F b ∨ b = h7.size ∨ b = lb) hb0 ha → Gw hb0 F ha Fx → Fr Fx ha hb → Fr (fun b => F b ∨ b = h7.size ∨ b = lb) hb0 hb := fun fa ga fb => fa.trans fb fun b hb y => .inl ((ga.old b hb).mp y)
    have f20' : Fr (fun b => F b ∨ b = h7.size ∨ b = lb) hb0 h20 := f19.trans f20 fun b hb y => .inl ((gw19.old b hb).mp y)
    have f22 := f20'.new n22
    have q22 : ∀ b, h.size ≤ b → b < hb0.size → b ≠ h7.size → b ≠ lb → rd h22 b = rd hb0 b := fun b h0 hb h1 h2 => f22.rd hb (nH b h0 h1 h2)
    have w22 : ∀ b, h.size ≤ b → b < hb0.size → b ≠ h7.size → b ≠ lb → Own hb0 b → Own h22 b := fun b h0 hb h1 h2 o => f22.own hb (nH b h0 h1 h2) o
    have x22 := x20.no n22.fr
    have gw22 : Gw hb0 F h22 F2 := ⟨gw20.old, fun b hb => x22.lt hb⟩
    have on22 : LoopOn h22 lb L .busy none := loopOn_fr (loopOn_fr t19.on f20 (n0 _ (by omega) (by omega))) n22.fr fun y => y
    have r22 : rd h22 h'.size = partV ofs s.length a := (n22.at_ (by omega)).trans ((f20.rd (by omega) (lF19 _ (by omega))).trans r19)
    have p22 : rd h22 hh.size = rd h' hh.size := (n22.at_ (by omega)).trans ((f20.rd (by omega) (lF19 _ (by omega))).trans p19)
    have stp : ∀ {b : Nat}, b = h4.size → (F b ∨ b = h7.size ∨ b = lb ∨ b = h4.size) := fun y => .inr (.inr (.inr y))
    have wid : ∀ {hx : Heap}, Fr (fun b => F b ∨ b = h7.size ∨ b = lb) hb0 hx → Fr (fun b => F b ∨ b = h7.size ∨ b = lb ∨ b = h4.size) hb0 hx := fun f => f.mono fun b _ y => by rcases y with y | y | y <;> simp [y]
    -- an error
    have err : ∀ hx Fx Tx' ex, ex ≠ 0 → Fr (fun b => F b ∨ b = h7.size ∨ b = lb) hb0 hx → Gw hb0 F hx Fx → Tx hx Fx t d Tx' → LoopOn hx lb L .busy none → Tx'.undo.length < 1000000000 → (∃ Rx, writeGo (geoN n) ofs s s.length 0 T R = ((Tx', Rx), ex)) → ∀ P : Heap → Prop,
        (∀ h23, LoopOn h23 lb L .busy none → (SetL (setLoop h23 lb L .done (some .ret)) lb L .exhausted (some .ret) fun h37 => EndD db h37 fun h35 => DCallsV Tryz.prog (.func (.func 109) ⟨[]⟩ ⟨undoV ub tb mb⟩) [] h35 fun h36 => ∃ (res5 : Int), cellOf h36 ⟨h4.size, 0, none⟩ = some (.int .i64 res5) ∧ K (.int .i64 res5) h36) → P h23) →
        Put ⟨h4.size, 0, none⟩ (.int .i64 ex) hx P := fun hx Fx Tx' ex he fx gx xx onx hux hw P hP => by
      have n3 : ∀ b, h.size ≤ b → b < hb0.size → ¬ Fx b := fun b h1 h2 y => nF b h1 ((gx.old b h2).mp y)
      refine put_e (fx.own (by omega) (nH _ (by omega) (by omega) (by omega)) oe) ((fx.rd (by omega) (nH _ (by omega) (by omega) (by omega))).trans re) fun h23 d23 => ?_
      have z23 := d23.size
      have on23 := loopOn_fr onx d23.fr (by omega)
      obtain ⟨Rx, hw⟩ := hw
      exact hP h23 on23 (exitL h23 Fx Tx' ex on23 ((wid fx).trans d23.fr fun b _ y => stp y) ⟨gx.old, fun b hb => by rw [z23]; exact gx.lt b hb⟩ (xx.fr d23.fr fun b hb y => n3 _ (by omega) (by omega) (y ▸ hb)) d23.own d23.rd hux (bodyE _ Rx _ he hw))
    refine cn (fun he => ?_) fun he => ?_
    · rw [if_pos he] at ew
      exact err h22 F2 T2 e he f22 gw22 x22 on22 (by omega) ⟨R', ew⟩ _ fun h23 on hs => ⟨on, .inr ⟨rfl, .done, some .ret, setLoop_on (loop_lt on) L _ _, by decide, hs⟩⟩
    rw [if_neg (fun y => y he)] at ew
    refine ⟨t, rdc ((q22 _ (by omega) (by omega) (by omega) (by omega)).trans rt) rfl, Tm.Read_spec x22 fun a1 l1 c1 h24 f24 hl s24 => ⟨_, _, _, _, rfl, cn (fun hr => ?_) fun hr => ?_⟩⟩
    · rw [if_pos hr] at ew
      exact err h24 F2 T2 _ hr (f22.no f24) ⟨gw22.old, fun b hb => (x22.no f24).lt hb⟩ (x22.no f24) (loopOn_fr on22 f24 fun y => y) (by omega) ⟨R', ew⟩ _ fun h23 on hs => ⟨on, .inr ⟨rfl, .done, some .ret, setLoop_on (loop_lt on) L _ _, by decide, hs⟩⟩
    rw [if_neg (fun y => y hr)] at ew
    have hlen : (T2.read v).1.length = 512 := Tx.readLen x22 hr
    obtain ⟨t1, t2⟩ := toP_gt (off := ofs) ha
    have z24 := f24.size
    have hc := s24.le
    have r24 : rd h24 h'.size = partV ofs s.length a := (f24.rd (by omega) fun y => y).trans r22
    generalize hrd : (T2.read v).1 = bs at hl s24 hlen ew
    obtain ⟨p0, ep, _⟩ := s24.get (by omega)
    subst ep
    obtain ⟨pb, po, sp⟩ := p0
    have esp : sp = none := s24.2.1
    subst esp
    have hfrom : h22.size ≤ pb := s24.2.2.1
    refine ⟨_, rda r24 rfl, _, rda r24 rfl, ⟨by omega, by omega, by omega⟩, _, rdc ((f24.rd (by omega) fun y => y).trans ((q22 _ (by omega) (by omega) (by omega) (by omega)).trans rs)) rfl, _, rda r24 rfl, ⟨by omega, by show (a : Int) ≤ (s.length : Int); omega⟩, ?_⟩
    rw [Int.toNat_natCast, Int.toNat_natCast, Int.toNat_natCast, if_neg (by omega), show (mkStr s).size = s.length from rfl, extract_mk]
    show CopyP _ (some (Addr.add ⟨pb, po, none⟩ _)) _ _ _ _
    rw [add_mk]
    obtain ⟨w24, l24⟩ := s24.wr
    have tn : toP ofs s.length a - (ofs + a) % 512 ≤ s.length - a := by unfold toP; omega
    have lnew : ((s.drop a).take (toP ofs s.length a - (ofs + a) % 512)).length = toP ofs s.length a - (ofs + a) % 512 := by rw [List.length_take, List.length_drop]; omega
    refine copy_str rfl (m := toP ofs s.length a - (ofs + a) % 512) (new := (s.drop a).take (toP ofs s.length a - (ofs + a) % 512)) ?_ ?_ lnew w24 (by omega) fun h26 d26 => ?_
    · show min ((s.drop a).take (s.length - a)).length _ = _
      rw [List.length_take, List.length_drop]; omega
    · rw [toList_mkStr, List.take_take]
      congr 1; omega
    generalize (s.drop a).take (toP ofs s.length a - (ofs + a) % 512) = new at ew lnew d26
    have s26 : Sl h26 1 (some ⟨pb, po, none⟩) l1 c1 ((putU bs ((ofs + a) % 512) new).map bv) (From h22.size) := by
      have := s24.putAt (new := new.map bv) (j := (ofs + a) % 512) (by rw [List.length_map, lnew]; omega) d26
      rw [putU_put (by rw [hlen, lnew]; omega)] at this; exact this
    have z26 := d26.size
    have f26 : Fr (fun b => F b ∨ b = h7.size ∨ b = lb) hb0 h26 := (f22.no f24).did d26 fun y => by omega
    have x26 : Tx h26 F2 t d T2 := (x22.no f24).fr d26.fr fun b hb y => by have := x22.lt hb; omega
    have gw26 : Gw hb0 F h26 F2 := ⟨gw22.old, fun b hb => x26.lt hb⟩
    have on26 : LoopOn h26 lb L .busy none := loopOn_fr (loopOn_fr on22 f24 fun y => y) d26.fr (by omega)
    have un3 := write_un T2 v (putU bs ((ofs + a) % 512) new)
    refine ⟨t, rdc ((f26.rd (by omega) (nH _ (by omega) (by omega) (by omega))).trans rt) rfl, Tm.Write_spec x26 s26.str (by omega) (fun q eq y => ?_) (by omega) fun h27 F3 f27 g27 x27 => ⟨_, rfl, ?_⟩⟩
    · cases eq
      have y : F2 pb := y
      have := x22.lt y
      omega
    have z27 := f27.size
    have gw27 : Gw hb0 F h27 F3 := gw26.trans g27 f26.size
    have f27' : Fr (fun b => F b ∨ b = h7.size ∨ b = lb) hb0 h27 := f26.trans f27 fun b hb y => .inl ((gw26.old b hb).mp y)
    have on27 : LoopOn h27 lb L .busy none := loopOn_fr on26 f27 (n2F _ (by omega) (by omega))
    refine cn (fun hw => ?_) fun hw => ?_
    · rw [if_pos hw] at ew
      exact err h27 F3 _ _ hw f27' gw27 x27 on27 (by omega) ⟨R', ew⟩ _ fun h23 on hs => ⟨on, .inr ⟨rfl, .done, some .ret, setLoop_on (loop_lt on) L _ _, by decide, hs⟩⟩
    rw [if_neg (fun y => y hw)] at ew
    have nF2y : ∀ b, h19.size ≤ b → h20.size ≤ b → ¬ F2 b := fun b _ h2 y => by have := x20.lt y; omega
    have y27 : rd h27 h20.size = ints R2 := (f27.rd (by omega) fun y => by have := x20.lt y; omega).trans ((d26.at_ (by omega) (by omega)).trans ((f24.rd (by omega) fun y => y).trans n22.rd))
    have n2x : ¬ F2 h7.size := n2F _ (by omega) (by omega)
    have n3F : ∀ b, h.size ≤ b → b < hb0.size → ¬ F3 b := fun b h1 h2 y => nF b h1 ((gw27.old b h2).mp y)
    have e7 : rd h27 h7.size = ints R' := (f27.rd (by omega) n2x).trans ((d26.at_ (by omega) (by omega)).trans ((f24.rd (by omega) fun y => y).trans ((n22.at_ (by omega)).trans ((f20.rd (by omega) (n0 _ (by omega) (by omega))).trans rx19))))
    have o7 : Own h27 h7.size := f27.own (by omega) n2x (d26.ow (f24.own (by omega) (fun y => y) (n22.ow (f20.own (by omega) (n0 _ (by omega) (by omega)) ox19))))
    refine ⟨_, by rw [ints_length, l2], cellsAll y27, PutRow.intro o7 (by rw [ints_length, l2]) (ints_one _) (by rw [e7, ints_length, W.lR]; decide) fun h29 d29 => ?_⟩
    have z29 := d29.size
    have on29 := loopOn_fr on27 d29.fr (by omega)
    have t30 := turned (loop_lt on29) L .ready none
    have z30 := t30.size
    have x30 : Tx (setLoop h29 lb L .ready none) F3 t d _ := (x27.fr d29.fr fun b hb y => n3F _ (by omega) (by omega) (y ▸ hb)).fr t30.fr fun b hb y => n3F _ (by omega) (by omega) (y ▸ hb)
    obtain ⟨ov, _, _, _, _, ewr⟩ := TM.write_ok hw
    refine ⟨on29, .inl ⟨rfl, ⟨F3, _, R2, k, ?_, ⟨gw27.old, fun b hb => x30.lt hb⟩, x30, ?_, l2, ?_, ?_, t30.on, ?_, ew, ?_, (nextA_gt ha).2⟩, ?_⟩⟩
    · exact (f27'.trans d29.fr fun b _ y => .inr (.inl y)).trans t30.fr fun b _ y => .inr (.inr y)
    · rw [ewr]; exact ov
    · refine (t30.fr.rd (by omega) (by omega)).trans (d29.rd.trans ?_)
      rw [e7]; exact put_all _ _ (by rw [ints_length, ints_length, l2, W.lR])
    · exact t30.fr.own (by omega) (by omega) d29.own
    · have := (nextA_gt (off := ofs) ha).1
      have := W.hk
      omega
    · have := (nextA_gt (off := ofs) ha).1
      omega
    · refine (t30.fr.rd (by omega) (by omega)).trans ((d29.at_ (by omega) (by omega)).trans ((f27.rd (by omega) fun y => ?_).trans ((d26.at_ (by omega) (by omega)).trans ((f24.rd (by omega) fun y => y).trans p22))))
      have hy : hh.size < h19.size := by omega
      exact lF19 _ (Nat.le_refl _) ((g20.old _ hy).mp y)
  · -- all is written
    obtain ⟨F', T', R', k, W⟩ := J
    have zf := W.fr.size
    have ew := W.eq.trans (writeGo_end (Nat.le_refl _) _)
    have n0 : ∀ b, h.size ≤ b → b < hb0.size → ¬ F' b := fun b h1 h2 y => nF b h1 ((W.gw.old b h2).mp y)
    have nH : ∀ b, h.size ≤ b → b ≠ h7.size → b ≠ lb → ¬ (F b ∨ b = h7.size ∨ b = lb) := fun b h1 h2 h3 y => by
      rcases y with y | y
      · exact nF b h1 y
      · omega
    refine ⟨.ready, none, W.on, by decide, pend_none (setL_intro (by omega) fun h31 t31 => ?_)⟩
    have z31 := t31.size
    have f31 : Fr (fun b => F b ∨ b = h7.size ∨ b = lb) hb0 h31 := W.fr.trans t31.fr fun b _ y => .inr (.inr y)
    have rx31 : rd h31 h7.size = ints R' := (t31.fr.rd (by omega) (by omega)).trans W.rx
    have ox31 : Own h31 h7.size := t31.fr.own (by omega) (by omega) W.ox
    have x31 : Tx h31 F' t d T' := W.x.fr t31.fr fun b hb y => n0 _ (by omega) (by omega) (y ▸ hb)
    refine ⟨_, rda rx31 (ints_at (by rw [W.lR]; decide)), _, rdc ((f31.rd (by omega) (nH _ (by omega) (by omega) (by omega))).trans rs) rfl, ?_⟩
    have emx : (if (IntKind.wrap .i64 ((ofs : Int) + ((mkStr s).size : Int))) > R'.getD (0 + 2) 0 then (IntKind.wrap .i64 ((ofs : Int) + ((mkStr s).size : Int))) else R'.getD (0 + 2) 0) = max (R'.getD 2 0) ((ofs + s.length : Nat) : Int) := by
      have e2 : R'.getD (0 + 2) 0 = R'.getD 2 0 := rfl
      rw [e2, show (mkStr s).size = s.length from rfl, wrap_i64 (by omega) (by omega)]
      split <;> omega
    rw [emx]
    refine Put.add ox31 (by rw [rx31, ints_length, W.lR]; decide) fun h32 d32 => ?_
    have z32 := d32.size
    have rx32 : rd h32 h7.size = ints (R'.set 2 (max (R'.getD 2 0) ((ofs + s.length : Nat) : Int))) := by rw [d32.rd, rx31]; exact ints_set
    have f32 : Fr (fun b => F b ∨ b = h7.size ∨ b = lb) hb0 h32 := f31.trans d32.fr fun b _ y => .inr (.inl y)
    have x32 : Tx h32 F' t d T' := x31.fr d32.fr fun b hb y => n0 _ (by omega) (by omega) (y ▸ hb)
    have lS : (R'.set 2 (max (R'.getD 2 0) ((ofs + s.length : Nat) : Int))).length = 15 := by rw [List.length_set, W.lR]
    have eB : bodyW T (geoN n) i R ofs s = putM T' (geoN n) i (R'.set 2 (max (R'.getD 2 0) ((ofs + s.length : Nat) : Int))) := by unfold bodyW; rw [ew]; exact if_neg (fun y => y rfl)
    have gl32 : Glo h32 := glb.fr f32 fun b hb y => by
      rcases y with y | y
      · exact g0 b hb y
      · omega
    have un := W.un
    have unp := putM_un (T := T') (g := geoN n) (n := i) (R := R'.set 2 (max (R'.getD 2 0) ((ofs + s.length : Nat) : Int)))
    have gw32 : Gw hb0 F h32 F' := ⟨W.gw.old, fun b hb => x32.lt hb⟩
    refine ⟨t, rdc ((f32.rd (by omega) (nH _ (by omega) (by omega) (by omega))).trans rt) rfl, (geoN n).v, rfl, cellsAll ((f32.rd (by omega) (nH _ (by omega) (by omega) (by omega))).trans rg), _, by rw [ints_length, lS], cellsAll rx32, Ino.Put_spec gl32 x32 (cok dm) lS (by omega) fun h33 F3 f33 g33 x33 => ⟨_, rfl, ?_⟩⟩
    have z33 := f33.size
    have gw33 : Gw hb0 F h33 F3 := gw32.trans g33 f32.size
    have f33' : Fr (fun b => F b ∨ b = h7.size ∨ b = lb) hb0 h33 := f32.trans f33 fun b hb y => .inl ((gw32.old b hb).mp y)
    have n3F : ∀ b, h.size ≤ b → b < hb0.size → ¬ F3 b := fun b h1 h2 y => nF b h1 ((gw33.old b h2).mp y)
    refine put_e (f33'.own (by omega) (nH _ (by omega) (by omega) (by omega)) oe) ((f33'.rd (by omega) (nH _ (by omega) (by omega) (by omega))).trans re) fun h34 d34 => ?_
    have z34 := d34.size
    refine fin h34 F3 _ _ ((f33'.mono fun b _ y => by rcases y with y | y | y <;> simp [y]).trans d34.fr fun b _ y => .inr (.inr (.inr y))) ⟨gw33.old, fun b hb => by rw [z34]; exact gw33.lt b hb⟩ (x33.fr d34.fr fun b hb y => n3F _ (by omega) (by omega) (y ▸ hb)) d34.own d34.rd (by omega) ?_
    rw [eB]
    unfold undoM
    split
    · rfl
    · rename_i hp
      have hp : (putM T' (geoN n) i (R'.set 2 (max (R'.getD 2 0) ((ofs + s.length : Nat) : Int)))).2 = 0 := Classical.byContradiction hp
      exact Prod.ext rfl rfl
end Go.Proofs.YtcdpakjhjmchhaaGreatDoor.Fi
namespace Go.Proofs.YtcdpakjhjmchhaaGreatDoor.Tm
open Go Go.Proofs Go.Proofs.YtcdpakjhjmchhaaGreatDoor.Wx Go.Proofs.YtcdpakjhjmchhaaGreatDoor.Hp Go.Proofs.YtcdpakjhjmchhaaGreatDoor.W Go.Proofs.YtcdpakjhjmchhaaGreatDoor.Ad
def TM.ended (S : RD) : TM := ⟨S, [], [], true⟩
theorem end_body {h : Heap} {b : Nat} {q x y z : Value} {K : Value → Heap → Prop} (o : Own h b) (e : rd h b = [q, x, y, z]) (hK : ∀ h', Did b h h' [q, .map none, .slice none 0 0, .bool true] → K (.tuple #[]) h') : txn_Txn_end (some ⟨b, 0, none⟩) K h := by
  refine os (Put.add o (by rw [e]; show 1 < 4; omega) fun h2 d2 => ?_)
  rw [e] at d2
  refine os (Put.add d2.own (by rw [d2.rd]; show 2 < 4; omega) fun h3 d3 => ?_)
  rw [d2.rd] at d3
  refine os (Put.add d3.own (by rw [d3.rd]; show 3 < 4; omega) fun h4 d4 => ?_)
  rw [d3.rd] at d4
  exact hK h4 ⟨by rw [d4.size, d3.size, d2.size], (d2.fr.trans d3.fr fun _ _ x => x).trans d4.fr fun _ _ x => x, d4.own, d4.rd⟩
/-- a transaction lets go of what it holds -/
theorem TxC.shut {h h7 h8 : Heap} {F : Nat → Prop} {col : Nat → Nat} {d : Option Addr} {r : TR} {T : TM} {S : RD} {D : Nat → Prop} (X : TxC h col d r T) (hF : ∀ b, F b ↔ 1 ≤ col b ∧ col b ≤ 5) (f : Fr (fun b => col b = 5) h h7) (g : Gw h (fun b => col b = 5) h7 D) (A : DiskF h7 D d S)
    (d8 : Did r.tb h7 h8 [.pointer d, .map none, .slice none 0 0, .bool true]) : ∃ F', Fr F h h8 ∧ Gw h F h8 F' ∧ Tx h8 F' (some ⟨r.tb, 0, none⟩) d (TM.ended S) := by
  have tl := X.own.lt
  have s1 := X.sc
  have z7 := f.size
  have z8 := d8.size
  obtain ⟨col', k1, k2⟩ : ∃ col' : Nat → Nat, (∀ b, D b → col' b = 5) ∧ ∀ b, ¬ D b → col' b = if b < h.size ∧ col b ≠ 5 then col b else 0 :=
    ⟨fun b => @ite _ (D b) (Classical.propDecidable _) 5 (if b < h.size ∧ col b ≠ 5 then col b else 0), fun b x => if_pos x, fun b x => if_neg x⟩
  have old : ∀ b, b < h.size → col' b = col b := fun b hb => by
    by_cases x : D b
    · rw [k1 b x]; exact ((g.old b hb).mp x).symm
    · have : col b ≠ 5 := fun e => x ((g.old b hb).mpr e)
      rw [k2 b x, if_pos ⟨hb, this⟩]
  have five : ∀ b, col' b = 5 ↔ D b := fun b => ⟨fun e => by
    by_cases x : D b
    · exact x
    · rw [k2 b x] at e
      split at e
      · rename_i y; exact absurd e y.2
      · exact absurd e (by decide), k1 b⟩
  have big : ∀ b, h8.size ≤ b → col' b = 0 := fun b hb => by
    have x : ¬ D b := fun x => by have := A.lt x; omega
    rw [k2 b x, if_neg (by omega)]
  refine ⟨fun b => 1 ≤ col' b ∧ col' b ≤ 5, ?_, ⟨fun b hb => by rw [old b hb]; exact (hF b).symm, fun b hb => ?_⟩, .inr ⟨col', r.tb, rfl, ⟨big, (old _ tl).trans s1, d8.own, d8.rd, ⟨rfl, rfl⟩, rfl, ?_⟩, fun b => Iff.rfl⟩⟩
  · refine (f.mono fun b _ e => (hF b).mpr ?_).trans d8.fr fun b _ e => (hF b).mpr ?_
    · have e : col b = 5 := e; omega
    · have e : b = r.tb := e; subst e; omega
  · rcases Nat.lt_or_ge b h8.size with x | x
    · exact x
    · rw [big b x] at hb; omega
  · refine (A.fr d8.fr fun b hb e => ?_).iff five
    have e : b = r.tb := e
    subst e
    have := (g.old _ tl).mp hb
    have this : col r.tb = 5 := this
    omega
theorem Abort_spec {h : Heap} {F : Nat → Prop} {t d : Option Addr} {T : TM} {K : Value → Heap → Prop} (x : Tx h F t d T) (hK : ∀ h' F', Fr F h h' → Gw h F h' F' → Tx h' F' t d (TM.ended T.disk) → K (.tuple #[]) h') : C.txn_Txn_Abort t h K := by
  have hlt := fun b hb => x.lt (b := b) hb
  rcases x with ⟨col, r, rfl, X, hF⟩ | ⟨col, tb, rfl, X, hF⟩
  · refine txn_Txn_Abort.ok (txn_Txn_end.ok (end_body X.own X.cell fun h2 d2 => ⟨rfl, ?_⟩))
    obtain ⟨F', f, g, y⟩ := X.shut hF (Fr.refl _ _) (Gw.refl (Nat.le_refl _) fun b hb => X.dk.lt hb) X.dk d2
    exact hK h2 F' f g y
  · refine txn_Txn_Abort.ok (txn_Txn_end.ok (end_body X.own X.cell fun h2 d2 => ⟨rfl, ?_⟩))
    have s1 := X.sc
    have f2 : Fr F h h2 := d2.fr.mono fun b _ e => by have e : b = tb := e; subst e; exact (hF _).mpr (by omega)
    have z2 := d2.size
    exact hK h2 F f2 (Gw.refl f2.size hlt) (.inr ⟨col, tb, rfl, ⟨fun b hb => X.nrm b (by omega), s1, d2.own, d2.rd, ⟨rfl, rfl⟩, rfl, X.dk.fr d2.fr fun b hb e => by
      have e : b = tb := e
      subst e
      have hb : col b = 5 := hb
      omega⟩, hF⟩)
end Go.Proofs.YtcdpakjhjmchhaaGreatDoor.Tm
namespace Go.Proofs.YtcdpakjhjmchhaaGreatDoor.Fi
open Go Go.Proofs Go.Proofs.YtcdpakjhjmchhaaGreatDoor.Wx Go.Proofs.YtcdpakjhjmchhaaGreatDoor.Hp Go.Proofs.YtcdpakjhjmchhaaGreatDoor.W Go.Proofs.YtcdpakjhjmchhaaGreatDoor.Ad Go.Proofs.YtcdpakjhjmchhaaGreatDoor.Tm Go.Proofs.YtcdpakjhjmchhaaGreatDoor.Bt Go.Proofs.YtcdpakjhjmchhaaGreatDoor.Spc Go.Proofs.YtcdpakjhjmchhaaGreatDoor.Re Go.Proofs.YtcdpakjhjmchhaaGreatDoor.Av
open Go.Proofs.YtcdpakjhjmchhaaGreatDoor.Hd (ints)
open Go.Proofs.YtcdpakjhjmchhaaGreatDoor.In (Glo ints_length ints_one mayR decA encR encR_length)
open Go.Proofs.YtcdpakjhjmchhaaGreatDoor.Bm (num nS path many edge Z0 num_nil)
theorem cnt_one : ∀ m, cnt (fun s => decide (s = 0)) (m + 1) = 1
  | 0 => rfl
  | m + 1 => by
    show cnt (fun s => decide (s = 0)) (m + 1) + (if decide (m + 1 = 0) = true then 1 else 0) = 1
    rw [cnt_one m, if_neg (by simp)]
/-- what the first file has after the first write -/
theorem first_facts {n : Nat} {L : Txt} (d : Dim n) (hn : n < 4428) (I : Ib n (recs0.flatMap encR) (4096 * ((geoN n).inodes - 98)) L) :
    ∃ Z' T' R', writeF ⟨fresh (chunks L), [], [], false⟩ (geoN n) 2 3 [97, 98, 99] = (T', 0) ∧ Fs n Z' T' 2 R' 3 filR ∧ readM T' (geoN n) 2 0 100 = ([0, 0, 0, 97, 98, 99], 0) ∧ blocksM T' (geoN n) 2 = (1, 0) ∧ T'.disk = fresh (chunks L) ∧ T'.undo.length ≤ 100 := by
  have f0 := fs0 d hn I
  have hlo := d.lo
  have hd := d.data
  have hino : (geoN n).inodes = 98 + (n + 4095) / 4096 := rfl
  have z := num_nil (Z := Z0 L) (R := filR) fil_zero
  have m0 : many (Z0 L) filR = 0 := by
    unfold many
    exact cnt_none _ fun s hs => decide_eq_false fun y => y (z s hs)
  have ht := f0.tot
  rw [m0] at ht
  obtain ⟨Z', T', R', ew, W⟩ := write_one (off := 3) (s := [97, 98, 99]) d f0 (by decide) (by decide) (by decide) (by show 0 + _ + 3 < 87; omega) (by omega)
  have ew : writeF ⟨fresh (chunks L), [], [], false⟩ (geoN n) 2 3 [97, 98, 99] = (T', 0) := ew
  refine ⟨Z', T', R', ew, W.fs, ?_, ?_, ?_, ?_⟩
  · have hr := W.fs.read (off := 0) (m := 100) d
    have e1 : R'.getD 2 0 = 6 := W.size
    rw [e1] at hr
    have e2 : (min (((100 : Nat) : Int)) (6 - ((0 : Nat) : Int))).toNat = 6 := by decide
    rw [e2] at hr
    have b0 : ∀ q, q < 8459264 → byteAt (Z0 L) filR q = 0 := fun q hq => by
      unfold byteAt pc
      rw [if_pos (z _ (by unfold nS; omega)), List.getD_eq_getElem?_getD, zeros, List.getElem?_replicate]
      split <;> rfl
    have b : ∀ q, q < 6 → byteAt Z' R' q = [0, 0, 0, 97, 98, 99].getD q 0 := fun q hq => by
      rw [W.byt q (by omega), b0 q (by omega)]
      rcases (by omega : q = 0 ∨ q = 1 ∨ q = 2 ∨ q = 3 ∨ q = 4 ∨ q = 5) with rfl | rfl | rfl | rfl | rfl | rfl <;> rfl
    have hb : bytesOf Z' R' 0 6 = [0, 0, 0, 97, 98, 99] := by
      show [byteAt Z' R' (0 + 0), byteAt Z' R' (0 + 1), byteAt Z' R' (0 + 2), byteAt Z' R' (0 + 3), byteAt Z' R' (0 + 4), byteAt Z' R' (0 + 5)] = _
      rw [b (0 + 0) (by decide), b (0 + 1) (by decide), b (0 + 2) (by decide), b (0 + 3) (by decide), b (0 + 4) (by decide), b (0 + 5) (by decide)]
      rfl
    rw [hb] at hr
    exact hr
  · have hb := W.fs.blocks d
    have : many Z' R' = 1 := by
      unfold many
      rw [← cnt_one 16651]
      refine cnt_congr fun x hx => ?_
      rw [decide_eq_decide, W.dom x hx]
      constructor
      · rintro (h | ⟨b, hb, h⟩)
        · exact absurd (z x hx) h
        · have hb : b < 3 := hb
          rw [show (3 + b) / 512 = 0 by omega] at h
          unfold path at h
          rw [if_pos (by decide), List.mem_singleton] at h; exact h
      · rintro rfl
        exact .inr ⟨0, by decide, by decide⟩
    rw [this] at hb
    exact hb
  · exact W.ext.disk
  · have : T'.undo.length ≤ 0 + 10 * 3 + 1 := W.un
    omega
end Go.Proofs.YtcdpakjhjmchhaaGreatDoor.Fi
namespace Go.Proofs.YtcdpakjhjmchhaaGreatDoor.Fi
open Go Go.Proofs Go.Proofs.YtcdpakjhjmchhaaGreatDoor.Wx Go.Proofs.YtcdpakjhjmchhaaGreatDoor.Hp Go.Proofs.YtcdpakjhjmchhaaGreatDoor.W Go.Proofs.YtcdpakjhjmchhaaGreatDoor.Ad Go.Proofs.YtcdpakjhjmchhaaGreatDoor.Tm Go.Proofs.YtcdpakjhjmchhaaGreatDoor.Bt Go.Proofs.YtcdpakjhjmchhaaGreatDoor.Spc Go.Proofs.YtcdpakjhjmchhaaGreatDoor.Re Go.Proofs.YtcdpakjhjmchhaaGreatDoor.Av
open Go.Proofs.YtcdpakjhjmchhaaGreatDoor.Hd (ints)
open Go.Proofs.YtcdpakjhjmchhaaGreatDoor.In (Glo ints_length ints_one mayR decA encR encR_length)
theorem fresh_spec {n : Nat} {h : Heap} {K : Value → Heap → Prop} (gl : Glo h) (d : Dim n) (hn : n < 4428)
    (hK : ∀ tb dd F L h', Fr No h h' → Tx h' F (some ⟨tb, 0, none⟩) dd ⟨fresh (chunks L), [], [], false⟩ → Ib n (recs0.flatMap encR) (4096 * ((geoN n).inodes - 98)) L → (∀ b, F b → h.size ≤ b) → K (.tuple #[.pointer (some ⟨tb, 0, none⟩), .agg ⟨(geoN n).v⟩]) h') : C.bolelaw12_fresh n h K := by
  have gl1 := gl.lt
  refine bolelaw12_fresh.ok (New.intro fun h2 n2 => Spc.Geo_spec (by omega) fun h3 f3 => ⟨_, rfl, NewRow.intro rfl (G.one _) rfl fun h5 n5 => ⟨(geoN n).v, rfl, cellsAll n5.rd, rfl, rfl, rfl, New.intro fun h6 n6 => ?_⟩⟩)
  have z2 := n2.size
  have z3 := f3.size
  have z5 := n5.size
  have z6 := n6.size
  have F6 : Fr No h h6 := ((n2.fr.no f3).new n5).new n6
  have hd0 : ∀ R ∈ recs0, ∀ i, i < 10 → R.getD (3 + i) 0 = 0 := fun R hR i hi => by
    have : ∀ R ∈ recs0, ∀ i : Fin 10, R.getD (3 + i.val) 0 = 0 := by decide
    exact this R hR ⟨i, hi⟩
  have Y6 : SlCells h6 (some ⟨h5.size, 0, none⟩) (recs0.flatMap ints) := cellsAll n6.rd
  refine image_spec (recs := recs0) (rc := 3) ⟨d.lo, hn⟩ Y6 (by decide) (by decide) hd0 (by decide) fun ib L h7 f7 I o7 hib r7 => ⟨_, _, _, rfl, ?_⟩
  have z7 := f7.size
  have hL := I.im.len
  have hlo := d.lo
  have B7 : StrAt h7 (some ⟨ib, 0, none⟩) (512 * n) L := strAll r7 hL
  refine openF_spec B7 (Nat.le_refl _) (by omega) (fun y => by exfalso; omega) fun _ _ _ q h8 D f8 hD A => ⟨_, _, rfl, cn (fun y => absurd rfl y) fun _ => cf rfl ?_⟩
  have z8 := f8.size
  have F8 : Fr No h h8 := (F6.no f7).no f8
  unfold bolelaw12_fresh.k1
  refine Tm.Begin_spec A fun tb h12 F f12 g12 x12 => ⟨_, rfl, cf rfl ?_⟩
  have z12 := f12.size
  obtain ⟨Z', T', R', ew, fs, er, eb, ed, eu⟩ := first_facts d hn I
  have F12 : Fr No h h12 := F8.no f12
  have lowF : ∀ b, F b → h7.size ≤ b := fun b hb => by
    rcases g12.new hb with y | y
    · exact hD b y
    · omega
  have rg12 : rd h12 h3.size = (geoN n).v := (f12.rd (by omega) fun y => y).trans ((f8.rd (by omega) fun y => y).trans ((f7.rd (by omega) fun y => y).trans ((n6.at_ (by omega)).trans n5.rd)))
  have nm : ∀ {h' : Heap} {G : Nat → Prop}, Fr G h12 h' → (∀ b, G b → h7.size ≤ b) → rd h' h3.size = (geoN n).v ∧ rd h' h.size = z25 ∧ Own h' h.size := fun f hG => by
    have r0 : rd h12 h.size = z25 := (f12.rd (by omega) fun y => y).trans ((f8.rd (by omega) fun y => y).trans ((f7.rd (by omega) fun y => y).trans ((n6.at_ (by omega)).trans ((n5.at_ (by omega)).trans ((f3.rd (by omega) fun y => y).trans n2.rd)))))
    have o0 : Own h12 h.size := f12.own (by omega) (fun y => y) (f8.own (by omega) (fun y => y) (f7.own (by omega) (fun y => y) (n6.ow (n5.ow (f3.own (by omega) (fun y => y) n2.own)))))
    exact ⟨(f.rd (by omega) fun y => by have := hG _ y; omega).trans rg12, (f.rd (by omega) fun y => by have := hG _ y; omega).trans r0, f.own (by omega) (fun y => by have := hG _ y; omega) o0⟩
  refine ⟨(geoN n).v, rfl, cellsAll rg12, Write_spec (gl.no F12) d x12 rfl (fun b hb y => by have := lowF b y; omega) (by show 0 < 500000000; decide) (by decide) (by decide) fun h14 F' f14 g14 x14 => ⟨_, rfl, ?_⟩⟩
  rw [ew] at x14 ⊢
  refine cn (fun y => absurd rfl y) fun _ => ?_
  unfold bolelaw12_fresh.k2
  have z14 := f14.size
  have lowF' : ∀ b, F' b → h7.size ≤ b := fun b hb => by
    rcases g14.new hb with y | y
    · exact lowF b y
    · omega
  have F14 : Fr No h h14 := F12.trans f14 fun b hb y => by have := lowF b y; omega
  refine ⟨(geoN n).v, rfl, cellsAll (nm f14 lowF).1, Read_spec (gl.no F14) d x14 fun h17 f17 => ⟨_, _, rfl, ?_⟩⟩
  have z17 := f17.size
  rw [er]
  obtain ⟨al1, al2⟩ := all_len fs.av fs.w
  have ml := many_le Z' R'
  have eg : getF T' (geoN n) 2 = (R', 0) := fs.get d
  refine ⟨(geoN n).v, rfl, cellsAll (nm (f14.no f17) lowF).1, Blocks_spec (gl.no (F14.no f17)) (x14.no f17) (cok d) (fun _ => by show (Bm.allM T' (geoN n) (getF T' (geoN n) 2).1).1.length + (Bm.allM T' (geoN n) (getF T' (geoN n) 2).1).2.1.length < 1000000000000; rw [eg]; show (Bm.allM T' (geoN n) R').1.length + (Bm.allM T' (geoN n) R').2.1.length < 1000000000000; omega) fun h18 f18 => ⟨_, _, rfl, cn (fun y => absurd rfl y) fun _ => ?_⟩⟩
  rw [eb]
  have z18 := f18.size
  refine cf (by rw [toList_mkStr, beq_self_eq_true]; rfl) (cn (fun y => absurd rfl y) fun _ => cn (fun y => absurd rfl y) fun _ => ?_)
  unfold bolelaw12_fresh.k3
  have x18 := (x14.no f17).no f18
  refine Tm.Abort_spec x18 fun h24 F2 f24 g24 x24 => ⟨rfl, ?_⟩
  have z24 := f24.size
  have lowF2 : ∀ b, F2 b → h7.size ≤ b := fun b hb => by
    rcases g24.new hb with y | y
    · exact lowF' b y
    · omega
  have f1224 : Fr (fun b => h7.size ≤ b) h12 h24 := (((f14.mono fun b _ y => lowF b y).no f17).no f18).trans f24 fun b _ y => lowF' b y
  obtain ⟨D2, A2, hD2⟩ := x24.dk
  have edk : (TM.ended T'.disk).disk = fresh (chunks L) := ed
  rw [edk] at A2
  refine ⟨(geoN n).v, rfl, cellsAll (nm f1224 fun _ y => y).1, Tm.Begin_spec A2 fun tb2 h25 F3 f25 g25 x25 => ⟨_, rfl, ⟨rfl, cellsAll (nm (f1224.no f25) fun _ y => y).1⟩, ?_⟩⟩
  have z25 := f25.size
  obtain ⟨_, r0, o0⟩ := nm (f1224.no f25) fun _ y => y
  refine PutRow.intro o0 rfl (G.one _) (by rw [r0]; exact Nat.le_refl _) fun h26 d26 => ⟨(geoN n).v, rfl, cellsAll (by rw [d26.rd, r0]; exact put_all _ _ rfl), ?_⟩
  have lowF3 : ∀ b, F3 b → h7.size ≤ b := fun b hb => by
    rcases g25.new hb with y | y
    · exact lowF2 b (hD2 b y)
    · omega
  exact hK tb2 _ F3 L h26 (((F12.trans f1224 fun b hb y => by have y : h7.size ≤ b := y; omega).no f25).did d26 fun hl => by omega) (x25.fr d26.fr fun b hb y => by have := lowF3 b hb; omega) I fun b hb => by have := lowF3 b hb; omega
end Go.Proofs.YtcdpakjhjmchhaaGreatDoor.Fi
namespace Go.Proofs.YtcdpakjhjmchhaaGreatDoor.Fi
open Go Go.Proofs Go.Proofs.YtcdpakjhjmchhaaGreatDoor.Wx Go.Proofs.YtcdpakjhjmchhaaGreatDoor.Hp Go.Proofs.YtcdpakjhjmchhaaGreatDoor.W Go.Proofs.YtcdpakjhjmchhaaGreatDoor.Ad Go.Proofs.YtcdpakjhjmchhaaGreatDoor.Tm Go.Proofs.YtcdpakjhjmchhaaGreatDoor.Bt Go.Proofs.YtcdpakjhjmchhaaGreatDoor.Spc Go.Proofs.YtcdpakjhjmchhaaGreatDoor.Re Go.Proofs.YtcdpakjhjmchhaaGreatDoor.Av
open Go.Proofs.YtcdpakjhjmchhaaGreatDoor.In (Glo mayR encR)
open Go.Proofs.YtcdpakjhjmchhaaGreatDoor.Ino (getM)
open Go.Proofs.YtcdpakjhjmchhaaGreatDoor.Bm (fresh_av)
theorem getF_none {n : Nat} {L : Txt} (d : Dim n) (hn : n < 4428) (I : Ib n (recs0.flatMap encR) (4096 * ((geoN n).inodes - 98)) L) {k : Int} (h1 : k ≠ 1) (h2 : k ≠ 2) (h3 : k ≠ 3) : (getF ⟨fresh (chunks L), [], [], false⟩ (geoN n) k).2 = 110 := by
  by_cases h : 1 ≤ k ∧ k < (geoN n).count
  · obtain ⟨m, rfl⟩ : ∃ m : Nat, k = m := ⟨k.toNat, by omega⟩
    have e := getM_at (k := m) (fresh_av I.im.len) d (by omega) (by omega)
    rw [recZ0 d hn I (by omega) (by omega), if_neg (by omega), if_neg (by omega)] at e
    unfold getF
    rw [e]
    exact congrArg Prod.snd (if_pos ⟨rfl, rfl⟩)
  · have e : getM ⟨fresh (chunks L), [], [], false⟩ (geoN n) k = (In.z15, 110) := by
      unfold getM; rw [if_pos h]
    unfold getF
    rw [e]
    exact congrArg Prod.snd (if_neg fun y => absurd (show (110 : Int) = 0 from y.1) (by decide))
end Go.Proofs.YtcdpakjhjmchhaaGreatDoor.Fi
namespace Go.Proofs.YtcdpakjhjmchhaaGreatDoor.Fi
open Go Go.Proofs Go.Proofs.YtcdpakjhjmchhaaGreatDoor.Wx Go.Proofs.YtcdpakjhjmchhaaGreatDoor.Hp Go.Proofs.YtcdpakjhjmchhaaGreatDoor.W Go.Proofs.YtcdpakjhjmchhaaGreatDoor.Ad Go.Proofs.YtcdpakjhjmchhaaGreatDoor.Tm Go.Proofs.YtcdpakjhjmchhaaGreatDoor.Bt Go.Proofs.YtcdpakjhjmchhaaGreatDoor.Spc Go.Proofs.YtcdpakjhjmchhaaGreatDoor.Re Go.Proofs.YtcdpakjhjmchhaaGreatDoor.Av
open Go.Proofs.YtcdpakjhjmchhaaGreatDoor.Hd (ints)
open Go.Proofs.YtcdpakjhjmchhaaGreatDoor.In (Glo ints_length ints_one mayR decA encR encR_length decOk getR_enc z15 wordOk kindOk)
open Go.Proofs.YtcdpakjhjmchhaaGreatDoor.Ino (getM putM Cok getM_length rblk rat)
open Go.Proofs.YtcdpakjhjmchhaaGreatDoor.Bm (findM cutM addM allM num num4 nS Wf Tight path Added find_ok add_ok num_congr path_self path_chain chain_nS path_data miss_zero many miss par walkA_ok root write_un addM_un cutM_un)
/-- what a file's bytes are beyond its end -/
structure Ends (Z : Nat → Txt) (R : List Int) : Prop where
  pcs : ∀ x, x < 16522 → num Z R x ≠ 0 → (512 * x : Int) < R.getD 2 0
  byt : ∀ q : Nat, q < 8459264 → R.getD 2 0 ≤ q → byteAt Z R q = 0
end Go.Proofs.YtcdpakjhjmchhaaGreatDoor.Fi
namespace Go.Proofs.YtcdpakjhjmchhaaGreatDoor.Fi
open Go Go.Proofs Go.Proofs.YtcdpakjhjmchhaaGreatDoor.Wx Go.Proofs.YtcdpakjhjmchhaaGreatDoor.Hp Go.Proofs.YtcdpakjhjmchhaaGreatDoor.W Go.Proofs.YtcdpakjhjmchhaaGreatDoor.Ad Go.Proofs.YtcdpakjhjmchhaaGreatDoor.Tm Go.Proofs.YtcdpakjhjmchhaaGreatDoor.Bt Go.Proofs.YtcdpakjhjmchhaaGreatDoor.Spc Go.Proofs.YtcdpakjhjmchhaaGreatDoor.Re Go.Proofs.YtcdpakjhjmchhaaGreatDoor.Av
open Go.Proofs.YtcdpakjhjmchhaaGreatDoor.Hd (ints)
open Go.Proofs.YtcdpakjhjmchhaaGreatDoor.In (Glo mayR encR)
open Go.Proofs.YtcdpakjhjmchhaaGreatDoor.Bm (num nS Tight path many edge Z0 num_nil data_sub)
theorem many_fil (Z : Nat → Txt) : many Z filR = 0 := by
  unfold Bm.many
  exact cnt_none _ fun s hs => decide_eq_false fun y => y (num_nil fil_zero s hs)
theorem ends0 (Z : Nat → Txt) : Ends Z filR := by
  have z := num_nil (Z := Z) (R := filR) fil_zero
  refine ⟨fun x hx h => absurd (z x (by unfold nS; omega)) h, fun q hq _ => ?_⟩
  unfold byteAt pc
  rw [if_pos (z _ (by unfold nS; omega)), List.getD_eq_getElem?_getD, zeros, List.getElem?_replicate]
  split <;> rfl
end Go.Proofs.YtcdpakjhjmchhaaGreatDoor.Fi
namespace Go.Proofs.YtcdpakjhjmchhaaGreatDoor.Fi
open Go Go.Proofs Go.Proofs.YtcdpakjhjmchhaaGreatDoor.Wx Go.Proofs.YtcdpakjhjmchhaaGreatDoor.Hp Go.Proofs.YtcdpakjhjmchhaaGreatDoor.W Go.Proofs.YtcdpakjhjmchhaaGreatDoor.Ad Go.Proofs.YtcdpakjhjmchhaaGreatDoor.Tm Go.Proofs.YtcdpakjhjmchhaaGreatDoor.Bt Go.Proofs.YtcdpakjhjmchhaaGreatDoor.Spc Go.Proofs.YtcdpakjhjmchhaaGreatDoor.Re Go.Proofs.YtcdpakjhjmchhaaGreatDoor.Av
open Go.Proofs.YtcdpakjhjmchhaaGreatDoor.Hd (ints)
open Go.Proofs.YtcdpakjhjmchhaaGreatDoor.In (Glo ints_length ints_one mayR decA encR encR_length)
open Go.Proofs.YtcdpakjhjmchhaaGreatDoor.Bm (num nS path many edge Z0 num_nil)
/-- a transaction over a disk whose regions stand at gb -/
structure Ly (n : Nat) (h1 : Heap) (gb : Nat) (t d : Option Addr) (hh : Heap) (F : Nat → Prop) (T : TM) : Prop where
  fr : Fr No h1 hh
  gl : Glo h1
  lo : h1.size ≤ gb
  rg : rd hh gb = (geoN n).v
  x : Tx hh F t d T
  nf : ¬ F gb
  fl : ∀ b, F b → h1.size ≤ b
section
variable {n : Nat} {h1 hh h' : Heap} {gb : Nat} {t d : Option Addr} {F F' : Nat → Prop} {T T' : TM}
theorem Ly.lt (c : Ly n h1 gb t d hh F T) : gb < hh.size := rd_lt (o := 0) (v := .int .i64 (geoN n).blocks) (by rw [c.rg]; rfl)
theorem Ly.glo (c : Ly n h1 gb t d hh F T) : Glo hh := c.gl.no c.fr
theorem Ly.g0 (c : Ly n h1 gb t d hh F T) : ∀ b, b < 1 → ¬ F b := fun b hb y => by have := c.fl b y; have := c.gl.lt; omega
theorem Ly.no (c : Ly n h1 gb t d hh F T) (f : Fr No hh h') : Ly n h1 gb t d h' F T :=
  { c with fr := c.fr.no f, rg := (f.rd c.lt fun y => y).trans c.rg, x := c.x.no f }
theorem Ly.call (c : Ly n h1 gb t d hh F T) (f : Fr F hh h') (g : Gw hh F h' F') (x : Tx h' F' t d T') : Ly n h1 gb t d h' F' T' := by
  have s := c.fr.size
  refine ⟨c.fr.trans f fun b hb y => by have := c.fl b y; omega, c.gl, c.lo, (f.rd c.lt c.nf).trans c.rg, x, fun y => c.nf ((g.old _ c.lt).mp y), fun b y => ?_⟩
  rcases g.new y with y | y
  · exact c.fl b y
  · omega
theorem Ly.readC (c : Ly n h1 gb t d hh F T) (dm : Dim n) {i off size e : Int} {s : Txt} (h : readM T (geoN n) i off size = (s, e)) {k : Value → Heap → Prop} (hK : ∀ h', Ly n h1 gb t d h' F T → Fr No hh h' → k (.tuple #[.string (mkStr s), .int .i64 e]) h') :
    C.file_Read t (geoN n).v i off size hh k :=
  Read_spec c.glo dm c.x fun h' f => by rw [h]; exact hK h' (c.no f) f
theorem Ly.read (c : Ly n h1 gb t d hh F T) (dm : Dim n) {i off size e : Int} {s : Txt} (h : readM T (geoN n) i off size = (s, e)) {k : Value → Heap → Prop} (hK : ∀ h', Ly n h1 gb t d h' F T → Fr No hh h' → k (.tuple #[.string (mkStr s), .int .i64 e]) h') :
    ∃ cs : List Value, List.length cs = 5 ∧ Cells hh ⟨gb, 0, none⟩ cs ∧ C.file_Read t cs i off size hh k :=
  ⟨(geoN n).v, rfl, cellsAll c.rg, c.readC dm h hK⟩
theorem Ly.writeC (c : Ly n h1 gb t d hh F T) (dm : Dim n) (live : T.over = false) (hu : T.undo.length < 500000000) {i off e : Int} {s : Txt} {T' : TM} (h : writeF T (geoN n) i off s = (T', e)) (ho : off ≤ 9223372036854775807) (hs : s.length ≤ 9223372036854775807) {k : Value → Heap → Prop}
    (hK : ∀ h' F', Ly n h1 gb t d h' F' T' → Fr F hh h' → Gw hh F h' F' → k (.int .i64 e) h') : C.file_Write t (geoN n).v i off (mkStr s) hh k :=
  Write_spec c.glo dm c.x live c.g0 hu ho hs fun h' F' f g x => by rw [h] at x ⊢; exact hK h' F' (c.call f g x) f g
theorem Ly.write (c : Ly n h1 gb t d hh F T) (dm : Dim n) (live : T.over = false) (hu : T.undo.length < 500000000) {i off e : Int} {s : Txt} {T' : TM} (h : writeF T (geoN n) i off s = (T', e)) (ho : off ≤ 9223372036854775807) (hs : s.length ≤ 9223372036854775807) {k : Value → Heap → Prop}
    (hK : ∀ h' F', Ly n h1 gb t d h' F' T' → Fr F hh h' → Gw hh F h' F' → k (.int .i64 e) h') :
    ∃ cs : List Value, List.length cs = 5 ∧ Cells hh ⟨gb, 0, none⟩ cs ∧ C.file_Write t cs i off (mkStr s) hh k :=
  ⟨(geoN n).v, rfl, cellsAll c.rg, c.writeC dm live hu h ho hs hK⟩
theorem Ly.cut (c : Ly n h1 gb t d hh F T) (dm : Dim n) (live : T.over = false) (hu : T.undo.length < 500000000) {i size e : Int} {T' : TM} (h : cutF T (geoN n) i size = (T', e)) {k : Value → Heap → Prop}
    (hK : ∀ h' F', Ly n h1 gb t d h' F' T' → Fr F hh h' → Gw hh F h' F' → k (.int .i64 e) h') :
    ∃ cs : List Value, List.length cs = 5 ∧ Cells hh ⟨gb, 0, none⟩ cs ∧ C.file_Cut t cs i size hh k :=
  ⟨(geoN n).v, rfl, cellsAll c.rg, Cut_spec c.glo dm c.x live c.g0 (by omega) fun h' F' f g x => by rw [h] at x ⊢; exact hK h' F' (c.call f g x) f g⟩
theorem Ly.blocks (c : Ly n h1 gb t d hh F T) (dm : Dim n) {i a e : Int} (h : blocksM T (geoN n) i = (a, e)) (hl : (getF T (geoN n) i).2 = 0 → (Bm.allM T (geoN n) (getF T (geoN n) i).1).1.length + (Bm.allM T (geoN n) (getF T (geoN n) i).1).2.1.length < 1000000000000) {k : Value → Heap → Prop}
    (hK : ∀ h', Ly n h1 gb t d h' F T → Fr No hh h' → k (.tuple #[.int .i64 a, .int .i64 e]) h') :
    ∃ cs : List Value, List.length cs = 5 ∧ Cells hh ⟨gb, 0, none⟩ cs ∧ C.file_Blocks t cs i hh k :=
  ⟨(geoN n).v, rfl, cellsAll c.rg, Blocks_spec c.glo c.x (cok dm) hl fun h' f => by rw [h]; exact hK h' (c.no f) f⟩
end
theorem fresh_ly {n : Nat} {h : Heap} {K : Value → Heap → Prop} (gl : Glo h) (d : Dim n) (hn : n < 4428) {ti : Nat} {k : Option Addr → Heap → Heap → Prop}
    (hK : ∀ tb dd F L h2 h4, h.size ≤ h2.size → Ly n h h2.size (some ⟨tb, 0, none⟩) dd h4 F ⟨fresh (chunks L), [], [], false⟩ → Ib n (recs0.flatMap encR) (4096 * ((geoN n).inodes - 98)) L → k (some ⟨tb, 0, none⟩) h2 h4) :
    C.bolelaw12_fresh n h fun r1 h2 => ∃ (q1 : Option Addr) (cs1 : List Value), r1 = .tuple #[.pointer q1, .agg ⟨cs1⟩] ∧ NewRow z25 ti cs1 5 h2 fun h4 => bif (Option.isNone q1) then K (.bool false) h4 else k q1 h2 h4 :=
  fresh_spec gl d hn fun tb dd F L h2 f2 x2 I hF => ⟨_, _, rfl, NewRow.intro rfl (G.one _) rfl fun h4 n4 => cf rfl (hK tb dd F L h2 h4 f2.size ⟨f2.new n4, gl, f2.size, n4.rd, x2.no n4.fr, fun y => absurd (x2.lt y) (Nat.lt_irrefl _), hF⟩ I)⟩
theorem d150 : Dim 150 := ⟨by decide, by decide⟩
section
variable {h1 hh : Heap} {gb : Nat} {t d : Option Addr} {F : Nat → Prop} {L : Txt}
theorem writeF_none {n : Nat} {T : TM} {i off : Int} {s : Txt} (h0 : 0 ≤ off) (h : (getF T (geoN n) i).2 = 110) : writeF T (geoN n) i off s = (T, 110) := by
  unfold writeF
  rw [if_neg (by omega), h, if_pos (by decide)]
theorem writeF_neg {n : Nat} {T : TM} {i off : Int} {s : Txt} (h0 : off < 0) : writeF T (geoN n) i off s = (T, 1) := by
  unfold writeF
  rw [if_pos h0]
theorem cutF_none {n : Nat} {T : TM} {i sz : Int} (h0 : 0 ≤ sz) (h : (getF T (geoN n) i).2 = 110) : cutF T (geoN n) i sz = (T, 110) := by
  unfold cutF
  rw [if_neg (by omega), h, if_pos (by decide)]
theorem cutF_neg {n : Nat} {T : TM} {i sz : Int} (h0 : sz < 0) : cutF T (geoN n) i sz = (T, 1) := by
  unfold cutF
  rw [if_pos h0]
theorem writeF_big {n : Nat} {T : TM} {i off : Int} {s : Txt} {R : List Int} (h0 : 0 ≤ off) (h : getF T (geoN n) i = (R, 0)) (hb : (s.length : Int) > 8459264 - off) : writeF T (geoN n) i off s = (T, 120) := by
  unfold writeF
  rw [if_neg (by omega), h, if_neg (fun y => y rfl), if_pos hb]
theorem writeF_empty {n : Nat} {T : TM} {i off : Int} {R : List Int} (h0 : 0 ≤ off) (h : getF T (geoN n) i = (R, 0)) (hb : off ≤ 8459264) : writeF T (geoN n) i off [] = (T, 0) := by
  unfold writeF
  rw [if_neg (by omega), h, if_neg (fun y => y rfl), if_neg (by show ¬ ((0 : Nat) : Int) > _; omega), if_pos rfl]
theorem cutF_big {n : Nat} {T : TM} {i sz : Int} {R : List Int} (h : getF T (geoN n) i = (R, 0)) (hb : sz > 8459264) : cutF T (geoN n) i sz = (T, 120) := by
  unfold cutF
  rw [if_neg (by omega), h, if_neg (fun y => y rfl), if_pos hb]
theorem mk_app (a b : Txt) : mkStr a ++ mkStr b = mkStr (a ++ b) := by
  apply ByteArray.ext
  rw [ByteArray.data_append]
  simp [mkStr]
theorem mk_size (a : Txt) : (mkStr a).size = a.length := by simp [mkStr, ByteArray.size]
/-- the last byte that a file may have -/
theorem ref_k7 {Z : Nat → Txt} {T : TM} {R : List Int} {K : Value → Heap → Prop} {h2 : Heap} (c : Ly 150 h1 h2.size t d hh F T) (W : readM T (geoN 150) 2 8459260 100 = ([0, 0, 0, 122], 0)) (_ : Fs 150 Z T 2 R 3 filR)
    (hK : ∀ h', Fr No h1 h' → K (.bool true) h') : bolelaw12_FileRefuses.k7 h2 t hh K := by
  unfold bolelaw12_FileRefuses.k7
  refine c.read d150 W fun h' c' _ => ⟨_, _, rfl, ?_⟩
  refine ct rfl ?_
  rw [beq_self_eq_true]
  exact hK h' c'.fr
theorem last_facts (I : Ib 150 (recs0.flatMap encR) (4096 * ((geoN 150).inodes - 98)) L) :
    ∃ Z' T' R', writeF ⟨fresh (chunks L), [], [], false⟩ (geoN 150) 2 8459263 [122] = (T', 0) ∧ Fs 150 Z' T' 2 R' 3 filR ∧ readM T' (geoN 150) 2 8459260 100 = ([0, 0, 0, 122], 0) := by
  have f0 := fs0 d150 (by decide) I
  have ht := f0.tot
  rw [many_fil] at ht
  have hd : (geoN 150).data = 101 := rfl
  obtain ⟨Z', T', R', ew, W⟩ := write_one (off := 8459263) (s := [122]) d150 f0 (by decide) (by decide) (by simp) (by show 0 + 1 + 3 < 87; decide) (by omega)
  refine ⟨Z', T', R', ew, W.fs, ?_⟩
  have hr := W.fs.read (off := 8459260) (m := 100) d150
  have e1 : R'.getD 2 0 = 8459264 := W.size
  rw [e1] at hr
  have e2 : (min (((100 : Nat) : Int)) (8459264 - ((8459260 : Nat) : Int))).toNat = 4 := by decide
  rw [e2] at hr
  have b : ∀ q, q < 8459264 → byteAt Z' R' q = if 8459263 ≤ q then 122 else 0 := fun q hq => by
    rw [W.byt q hq]
    by_cases h : 8459263 ≤ q
    · rw [if_pos ⟨h, by show q < 8459263 + 1; omega⟩, if_pos h, show q - 8459263 = 0 by omega]; rfl
    · rw [if_neg (fun y => h y.1), if_neg h]
      exact (ends0 _).byt q hq (by show (0 : Int) ≤ q; omega)
  have hb : bytesOf Z' R' 8459260 4 = [0, 0, 0, 122] := by
    show [byteAt Z' R' (8459260 + 0), byteAt Z' R' (8459260 + 1), byteAt Z' R' (8459260 + 2), byteAt Z' R' (8459260 + 3)] = _
    rw [b (8459260 + 0) (by decide), b (8459260 + 1) (by decide), b (8459260 + 2) (by decide), b (8459260 + 3) (by decide)]
    rfl
  rw [hb] at hr
  exact hr
theorem ref_k6 {K : Value → Heap → Prop} {h2 : Heap} (c : Ly 150 h1 h2.size t d hh F ⟨fresh (chunks L), [], [], false⟩) (I : Ib 150 (recs0.flatMap encR) (4096 * ((geoN 150).inodes - 98)) L)
    (hK : ∀ h', Fr No h1 h' → K (.bool true) h') : bolelaw12_FileRefuses.k6 h2 t hh K := by
  unfold bolelaw12_FileRefuses.k6
  obtain ⟨Z', T', R', ew, fs, er⟩ := last_facts I
  refine Written_spec c.x (Nat.zero_le _) fun a l c' h' f el s => ⟨_, _, _, rfl, ?_⟩
  have el : l = 0 := el
  subst el
  refine cn (fun y => absurd rfl y) fun _ => (c.no f).write d150 rfl (by show 0 < 500000000; decide) ew (by decide) (by decide) fun h3 F3 c3 _ _ => ⟨_, rfl, cn (fun y => absurd rfl y) fun _ => ref_k7 c3 er fs hK⟩
theorem ref_k5 {K : Value → Heap → Prop} {h2 : Heap} {s : Txt} (c : Ly 150 h1 h2.size t d hh F ⟨fresh (chunks L), [], [], false⟩) (I : Ib 150 (recs0.flatMap encR) (4096 * ((geoN 150).inodes - 98)) L) (hs : s.length ≤ 1000)
    (hK : ∀ h', Fr No h1 h' → K (.bool true) h') : bolelaw12_FileRefuses.k5 h2 t (mkStr s) hh K := by
  have g2 := (fs0 d150 (by decide) I).get d150
  have g2 : getF ⟨fresh (chunks L), [], [], false⟩ (geoN 150) 2 = (filR, 0) := g2
  have lu : (⟨fresh (chunks L), [], [], false⟩ : TM).undo.length < 500000000 := by show 0 < 500000000; decide
  have ls : (s ++ [97]).length = s.length + 1 := by rw [List.length_append]; rfl
  unfold bolelaw12_FileRefuses.k5
  rw [mk_app, mk_size, mk_size, wrap_i64 (n := 8459264 - (s.length : Int)) (by omega) (by omega)]
  have w1 : writeF ⟨fresh (chunks L), [], [], false⟩ (geoN 150) 2 (8459264 - (s.length : Int)) (s ++ [97]) = (_, 120) := writeF_big (by omega) g2 (by rw [ls]; omega)
  have w2 : writeF ⟨fresh (chunks L), [], [], false⟩ (geoN 150) 2 9223372036854775807 (s ++ [97]) = (_, 120) := writeF_big (by decide) g2 (by rw [ls]; omega)
  have w3 : writeF ⟨fresh (chunks L), [], [], false⟩ (geoN 150) 2 8459264 [] = (_, 0) := writeF_empty (by decide) g2 (by decide)
  have c1 : cutF ⟨fresh (chunks L), [], [], false⟩ (geoN 150) 2 8459265 = (_, 120) := cutF_big g2 (by decide)
  have c2 : cutF ⟨fresh (chunks L), [], [], false⟩ (geoN 150) 2 9223372036854775807 = (_, 120) := cutF_big g2 (by decide)
  have nb : ((s.length + [97].length : Nat) : Int) ≤ 9223372036854775807 := by show ((s.length + 1 : Nat) : Int) ≤ _; omega
  refine ⟨_, rfl, cellsAll c.rg, nb, c.writeC d150 rfl lu w1 (by omega) (by omega) fun h3 F3 c3 _ _ => ⟨_, rfl, cn (fun y => absurd rfl y) fun _ => ⟨_, rfl, cellsAll c3.rg, nb, c3.writeC d150 rfl lu w2 (by decide) (by omega) fun h4 F4 c4 _ _ => ⟨_, rfl, cn (fun y => absurd rfl y) fun _ => ?_⟩⟩⟩⟩
  exact c4.cut d150 rfl lu c1 fun h5 F5 c5 _ _ => ⟨_, rfl, cn (fun y => absurd rfl y) fun _ => c5.cut d150 rfl lu c2 fun h6 F6 c6 _ _ => ⟨_, rfl, cn (fun y => absurd rfl y) fun _ =>
    c6.write d150 rfl lu w3 (by decide) (by decide) fun h7 F7 c7 _ _ => ⟨_, rfl, cn (fun y => absurd rfl y) fun _ => ref_k6 c7 I hK⟩⟩⟩
theorem ref_k4 {K : Value → Heap → Prop} {h2 : Heap} {s : Txt} {bl no : Int} (c : Ly 150 h1 h2.size t d hh F ⟨fresh (chunks L), [], [], false⟩) (I : Ib 150 (recs0.flatMap encR) (4096 * ((geoN 150).inodes - 98)) L) (hs : s.length ≤ 1000) (hb : bl < 0) (hn : no ≠ 1 ∧ no ≠ 2 ∧ no ≠ 3)
    (hK : ∀ h', Fr No h1 h' → K (.bool true) h') : bolelaw12_FileRefuses.k4 h2 t bl (mkStr s) no hh K := by
  have gn := getF_none d150 (by decide) I hn.1 hn.2.1 hn.2.2
  have lu : (⟨fresh (chunks L), [], [], false⟩ : TM).undo.length < 500000000 := by show 0 < 500000000; decide
  unfold bolelaw12_FileRefuses.k4
  exact c.write d150 rfl lu (writeF_none (by decide) gn) (by decide) (by omega) fun h3 F3 c3 _ _ => ⟨_, rfl, cn (fun y => absurd rfl y) fun _ => c3.write d150 rfl lu (writeF_neg hb) (by omega) (by omega) fun h4 F4 c4 _ _ => ⟨_, rfl, cn (fun y => absurd rfl y) fun _ =>
    c4.cut d150 rfl lu (cutF_none (by decide) gn) fun h5 F5 c5 _ _ => ⟨_, rfl, cn (fun y => absurd rfl y) fun _ => c5.cut d150 rfl lu (cutF_neg hb) fun h6 F6 c6 _ _ => ⟨_, rfl, cn (fun y => absurd rfl y) fun _ => ref_k5 c6 I hs hK⟩⟩⟩⟩
theorem readM_none {n : Nat} {T : TM} {i off size : Int} (h0 : 0 ≤ off) (h1 : 0 ≤ size) (h : (getF T (geoN n) i).2 = 110) : readM T (geoN n) i off size = ([], 110) := by
  unfold readM
  rw [if_neg (by omega), h, if_pos (by decide)]
theorem readM_neg {n : Nat} {T : TM} {i off size : Int} (h : off < 0 ∨ size < 0) : readM T (geoN n) i off size = ([], 1) := by
  unfold readM
  rw [if_pos h]
theorem blocksM_none {n : Nat} {T : TM} {i : Int} (h : (getF T (geoN n) i).2 = 110) : blocksM T (geoN n) i = (0, 110) := by
  unfold blocksM
  rw [h, if_pos (by decide)]
theorem ref_k3 {K : Value → Heap → Prop} {h2 : Heap} {s : Txt} {bl no : Int} (c : Ly 150 h1 h2.size t d hh F ⟨fresh (chunks L), [], [], false⟩) (I : Ib 150 (recs0.flatMap encR) (4096 * ((geoN 150).inodes - 98)) L) (hs : s.length ≤ 1000) (hb : bl < 0) (hn : no ≠ 1 ∧ no ≠ 2 ∧ no ≠ 3)
    (hK : ∀ h', Fr No h1 h' → K (.bool true) h') : bolelaw12_FileRefuses.k3 h2 t hh bl (mkStr s) no K := by
  have gn := getF_none d150 (by decide) I hn.1 hn.2.1 hn.2.2
  unfold bolelaw12_FileRefuses.k3
  refine c.read d150 (readM_none (by decide) (by decide) gn) fun h3 c3 _ => ⟨_, _, rfl, c3.read d150 (readM_neg (.inl hb)) fun h4 c4 _ => ⟨_, _, rfl, c4.read d150 (readM_neg (.inr hb)) fun h5 c5 _ => ⟨_, _, rfl, c5.blocks d150 (blocksM_none gn) (fun y => by rw [gn] at y; cases y) fun h6 c6 _ => ⟨_, _, rfl, cn (fun y => absurd rfl y) fun _ => cn (fun y => absurd rfl y) fun _ => cn (fun y => absurd rfl y) fun _ => cn (fun y => absurd rfl y) fun _ => ref_k4 c6 I hs hb hn hK⟩⟩⟩⟩
theorem FileRefuses_spec {n off : Int} {s : Txt} {h : Heap} {K : Value → Heap → Prop} (gl : Glo h) (ho : off ≤ 9223372036854775807) (hs : s.length ≤ 140737488355328) (hK : ∀ h', Fr No h h' → K (.bool true) h') : C.bolelaw12_FileRefuses n off (mkStr s) h K := by
  refine bolelaw12_FileRefuses.ok (fresh_ly gl d150 (by decide) fun tb dd F L h2 h4 _ c I => ?_)
  have go : ∀ bl : Int, bl < 0 → bolelaw12_FileRefuses.k1 n (mkStr s) h2 (some ⟨tb, 0, none⟩) h4 bl K := fun bl hb => by
    have go2 : ∀ s' : Txt, s'.length ≤ 1000 → bolelaw12_FileRefuses.k2 n h2 (some ⟨tb, 0, none⟩) h4 bl (mkStr s') K := fun s' hs' => by
      unfold bolelaw12_FileRefuses.k2
      exact cd (fun h1 => cd (fun h3 => ref_k3 c I hs' hb (by decide) hK) fun h3 => ref_k3 c I hs' hb (by omega) hK) fun h1 => ref_k3 c I hs' hb (by omega) hK
    unfold bolelaw12_FileRefuses.k1
    rw [mk_size]
    refine cd (fun h1 => ⟨⟨by decide, by omega⟩, ?_⟩) fun h1 => go2 s (by omega)
    rw [extract_mk]
    exact go2 _ (by rw [List.length_take]; exact Nat.min_le_left _ _)
  refine cd (fun h0 => ?_) fun h0 => go off (by omega)
  refine go _ ?_
  rw [wrap_i64 (by omega) (by omega)]; omega
end
end Go.Proofs.YtcdpakjhjmchhaaGreatDoor.Fi
namespace Go.Proofs.YtcdpakjhjmchhaaGreatDoor
open Go Go.ChangeShapes Go.WideShapes Go.ChangeAt Go.RowKit Go.Proofs.YtcdpakjhjmchhaaGreatDoor.Wx Go.Proofs.YtcdpakjhjmchhaaGreatDoor.Hp Go.Proofs.YtcdpakjhjmchhaaGreatDoor.Gl
theorem laid_met (os : Os) : laidMet Tryz.prog Rows.fileRefusesRow.laid ((laidWorld os).forCall (fun _ _ => 0) ⟨#[], #[.int .i64 0, .int .i64 0, .string (mkStr [])], []⟩).memory :=
  laidMet_of_run' 8 (by kernel_rfl) (by kernel_rfl)
theorem reads (os : Os) {H : Type} (enc : TypeId × Value → H) : ∃ places, DataW.whole enc Tryz.prog ((laidWorld os).forCall (fun _ _ => 0) ⟨#[], #[.int .i64 0, .int .i64 0, .string (mkStr [])], []⟩).memory Tryz.f8.params.toList Rows.fileRefusesSpec.vars false #[Value.int .i64 0, .int .i64 0, .string (mkStr [])].toList 8 = some ([.lit (.int .i64 0), .lit (.int .i64 0), .lit (.string [])], [], places) :=
  ⟨[], by kernel_rfl⟩
set_option maxRecDepth 100000 in
theorem fref_lifted (os : Os) (started : os.Started) (H : Type) (enc : TypeId × Value → H) (F : Stop.Interp) :
    ReturnsInHanded {} Tryz.checked os 8 .any ((OpenSpec.ofChange Rows.fileRefusesSpec).preRow enc Tryz.prog Tryz.f8 Rows.fileRefusesRow.domain false Rows.fileRefusesRow.laid) (((OpenSpec.ofChange Rows.fileRefusesSpec).at F).post enc Tryz.prog Tryz.f8 false true false false) := by
  obtain ⟨places, hx⟩ := reads os enc
  refine lifted_row (C := Tryz.checked) (P := Tryz.prog) (s := Rows.fileRefusesSpec) (tb := 4) rfl Tryz.own started (by kernel_rfl) Tryz.func8
    (witness_row_at (enc := enc) (C := Tryz.checked) false (laidWorld os) #[.int .i64 0, .int .i64 0, .string (mkStr [])] rfl (by kernel_rfl) (by kernel_rfl) (by kernel_rfl)
      (OpenSpec.preRow_of_cond 8 hx (by kernel_rfl) (fun k hk => by cases hk) (by kernel_rfl) (laid_met os)))
    Tryz.laidOut (by kernel_rfl) (by kernel_rfl) Tryz.underlying4 rfl ?_ ?_
  · intro ds hl
    rw [Tryz.params8] at hl
    match ds, hl with
    | [_, _, _], _ => exact ⟨rfl, rfl, rfl⟩
  · intro W base args ds ps hval hA hsz hL
    rw [Tryz.params8] at hA hval hsz
    obtain ⟨v0, v1, v2, d0, d1, d2, p0, p1, p2, rfl, rfl, rfl, h0, h1, h2⟩ := trodAll_three hA
    obtain ⟨n0, rfl, rfl, rfl, w0⟩ := open_int Tryz.underlying3 (hval 0 3 v0 rfl rfl) h0
    obtain ⟨n1, rfl, rfl, rfl, w1⟩ := open_int Tryz.underlying3 (hval 1 3 v1 rfl rfl) h1
    obtain ⟨s, rfl, rfl⟩ := open_text Tryz.underlying9 (hval 2 9 v2 rfl rfl) h2
    have ls := text_le (light_arg hsz (j := 2) rfl rfl)
    exact Fi.FileRefuses_spec (table1 hL) (int_range w1).2 (by omega) true_mk
theorem fref_said : Rows.FileRefusesSaid :=
  OpenClaim.holds_of_cond 8 Tryz.f8 rfl rfl rfl rfl rfl rfl rfl ⟨rfl, rfl, rfl, rfl, rfl⟩ rfl rfl rfl rfl rfl (by kernel_rfl) Tryz.func8 (by kernel_rfl)
    (of_decide_eq_true (by kernel_rfl)) (by unfold Func.isWrapper; first | (rw [if_pos (by decide +kernel)]; kernel_rfl) | (rw [if_neg (by decide +kernel)]; exact ⟨rfl, rfl⟩))
    (fun os started H enc _ F => by rw [OpenClaim.pre_eq_preRow]; exact fref_lifted os started H enc F)
theorem fref_plain (f : FuncId) (fn : Func) (hf : Tryz.pinned.checked.prog.funcNamed "bole/bolelaw12.FileRefuses" = some f) (hfn : Tryz.pinned.checked.prog.funcs[f]? = some fn) :
    false = Tryz.pinned.checked.prog.looks [] ∧ ∀ (j : Nat) t, fn.params[j]? = some t → Tryz.pinned.checked.prog.wantsStandIn t = false := by
  obtain rfl : f = 8 := Option.some.inj ((show Tryz.prog.funcNamed "bole/bolelaw12.FileRefuses" = some 8 by kernel_rfl).symm.trans hf) |>.symm
  obtain rfl : fn = Tryz.f8 := (Option.some.inj (Tryz.func8.symm.trans hfn)).symm
  refine ⟨by kernel_rfl, fun j t ht => ?_⟩
  rw [Tryz.params8] at ht
  have := Array.mem_of_getElem? ht
  have : t = 3 ∨ t = 9 := by simpa using this
  rcases this with rfl | rfl
  · exact (show Tryz.prog.wantsStandIn 3 = false by kernel_rfl)
  · exact (show Tryz.prog.wantsStandIn 9 = false by kernel_rfl)
theorem fileRefuses_card : Rows.FileRefusesCardSaid :=
  Claim7.holds_tied_plain_at .later [] _ _ _ _ fref_said (fun _ h => by cases h) (by kernel_rfl) (fun _ h => by cases h) fileRefuses_row_tie rfl ⟨rfl, rfl⟩ (by kernel_rfl) rfl fref_plain (by kernel_rfl)
end Go.Proofs.YtcdpakjhjmchhaaGreatDoor
