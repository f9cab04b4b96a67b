/-
  RECORDS OF INODES, PLAINLY: fifteen numbers, 64 bytes.
-/
import Derived.Test.YtcdpakjhjmchhaaDoorReI
namespace Go.Proofs.YtcdpakjhjmchhaaDoor.In
open Go Go.Proofs Go.Proofs.YtcdpakjhjmchhaaDoor.Re Go.Proofs.YtcdpakjhjmchhaaDoor.Hd

def z15 : List Int := List.replicate 15 0
/-- what a record of this kind may tell -/
def kindOk (k l s : Int) (R : List Int) : Bool :=
  if k = 0 then decide (R = z15) else if k = 1 then (decide (0 ≤ l) && decide (l ≤ 1000)) && (decide (0 ≤ s) && decide (s ≤ 8459264))
  else if k = 2 then (decide (2 ≤ l) && decide (l ≤ 65535)) && ((decide (0 ≤ s) && decide (s ≤ 8459264)) && decide (s % 512 = 0))
  else if k = 3 then (decide (1 ≤ l) && decide (l ≤ 1000)) && (decide (1 ≤ s) && decide (s ≤ 1024)) else false
def wordOk (n : Int) : Bool := decide (0 ≤ n) && decide (n ≤ 4294967295)
/-- may it be a record -/
def mayR (R : List Int) : Bool := (R.drop 3).all wordOk && kindOk (R.getD 0 0) (R.getD 1 0) (R.getD 2 0) R
/-- a record's bytes -/
def encR (R : List Int) : List UInt8 := leB 1 (R.getD 0 0).toNat ++ ([0] ++ (leB 2 (R.getD 1 0).toNat ++ (leB 4 (R.getD 2 0).toNat ++ (flat4 (R.drop 3) ++ zeros 8))))
/-- the numbers that bytes tell -/
def getR (bs : List UInt8) : List Int := [(getAt bs 0 1 : Int), (getAt bs 2 2 : Int), (getAt bs 4 4 : Int)] ++ (List.range 12).map fun i => (getAt bs (8 + 4 * i) 4 : Int)
theorem getR_length (bs : List UInt8) : (getR bs).length = 15 := by rw [getR, List.length_append, List.length_map, List.length_range]; rfl
def clean (bs : List UInt8) : Bool := allZero ((bs.drop 1).take 1) && allZero ((bs.drop 56).take 8)
def decOk (bs : List UInt8) : Bool := clean bs && mayR (getR bs)
/-- what Decode answers -/
def decA (bs : List UInt8) : List Int × Int := if bs.length ≠ 64 then (z15, 32) else if decOk bs then (getR bs, 0) else (z15, 111)
theorem list15 {R : List Int} (h : R.length = 15) : R = [R.getD 0 0, R.getD 1 0, R.getD 2 0] ++ R.drop 3 := by
  match R, h with
  | [a, b, c, d0, d1, d2, d3, d4, d5, d6, d7, d8, d9, x, y], _ => rfl
theorem mayR_bounds {R : List Int} (h : R.length = 15) (m : mayR R = true) : 0 ≤ R.getD 0 0 ∧ R.getD 0 0 ≤ 3 ∧ 0 ≤ R.getD 1 0 ∧ R.getD 1 0 ≤ 65535 ∧ 0 ≤ R.getD 2 0 ∧ R.getD 2 0 ≤ 8459264 ∧ ∀ n ∈ R.drop 3, 0 ≤ n ∧ n ≤ 4294967295 := by
  rw [mayR, Bool.and_eq_true] at m
  have hw : ∀ n ∈ R.drop 3, 0 ≤ n ∧ n ≤ 4294967295 := fun n hn => by
    have := List.all_eq_true.mp m.1 n hn
    rw [wordOk, Bool.and_eq_true, decide_eq_true_eq, decide_eq_true_eq] at this; exact this
  have k := m.2
  unfold kindOk at k
  split at k
  · rename_i h0
    have e := of_decide_eq_true k
    subst e
    refine ⟨by decide, by decide, by decide, by decide, by decide, by decide, hw⟩
  · split at k
    · simp only [Bool.and_eq_true, decide_eq_true_eq] at k
      exact ⟨by omega, by omega, by omega, by omega, by omega, by omega, hw⟩
    · split at k
      · simp only [Bool.and_eq_true, decide_eq_true_eq] at k
        exact ⟨by omega, by omega, by omega, by omega, by omega, by omega, hw⟩
      · split at k
        · simp only [Bool.and_eq_true, decide_eq_true_eq] at k
          exact ⟨by omega, by omega, by omega, by omega, by omega, by omega, hw⟩
        · cases k
theorem encR_length {R : List Int} (h : R.length = 15) : (encR R).length = 64 := by
  simp only [encR, List.length_append, leB_length, flat4_length, zeros_length, List.length_drop, h, List.length_singleton]
theorem encR_drops {R : List Int} (h : R.length = 15) : (encR R).drop 1 = [0] ++ (leB 2 (R.getD 1 0).toNat ++ (leB 4 (R.getD 2 0).toNat ++ (flat4 (R.drop 3) ++ zeros 8))) ∧ (encR R).drop 2 = leB 2 (R.getD 1 0).toNat ++ (leB 4 (R.getD 2 0).toNat ++ (flat4 (R.drop 3) ++ zeros 8)) ∧
    (encR R).drop 4 = leB 4 (R.getD 2 0).toNat ++ (flat4 (R.drop 3) ++ zeros 8) ∧ (encR R).drop 8 = flat4 (R.drop 3) ++ zeros 8 ∧ (encR R).drop 56 = zeros 8 := by
  have d1 : (encR R).drop 1 = [0] ++ (leB 2 (R.getD 1 0).toNat ++ (leB 4 (R.getD 2 0).toNat ++ (flat4 (R.drop 3) ++ zeros 8))) := drop_app (leB_length 1 _)
  have d2 : (encR R).drop 2 = leB 2 (R.getD 1 0).toNat ++ (leB 4 (R.getD 2 0).toNat ++ (flat4 (R.drop 3) ++ zeros 8)) := by rw [show 2 = 1 + 1 by rfl, ← List.drop_drop, d1]; rfl
  have d4 : (encR R).drop 4 = leB 4 (R.getD 2 0).toNat ++ (flat4 (R.drop 3) ++ zeros 8) := by rw [show 4 = 2 + 2 by rfl, ← List.drop_drop, d2]; exact drop_app (leB_length 2 _)
  have d8 : (encR R).drop 8 = flat4 (R.drop 3) ++ zeros 8 := by rw [show 8 = 4 + 4 by rfl, ← List.drop_drop, d4]; exact drop_app (leB_length 4 _)
  refine ⟨d1, d2, d4, d8, ?_⟩
  rw [show 56 = 8 + 48 by rfl, ← List.drop_drop, d8]
  exact drop_app (by rw [flat4_length, List.length_drop, h])
theorem getR_enc {R : List Int} (h : R.length = 15) (m : mayR R = true) : getR (encR R) = R ∧ clean (encR R) = true := by
  obtain ⟨k0, k1, l0, l1, s0, s1, hw⟩ := mayR_bounds h m
  obtain ⟨d1, d2, d4, d8, d56⟩ := encR_drops h
  refine ⟨?_, ?_⟩
  · conv => rhs; rw [list15 h]
    have g0 : getAt (encR R) 0 1 = (R.getD 0 0).toNat := by
      rw [getAt, List.drop_zero, encR, take_app (leB_length 1 _), leN_leB 1 _ (by omega)]
    have g1 : getAt (encR R) 2 2 = (R.getD 1 0).toNat := by
      rw [getAt, d2, take_app (leB_length 2 _), leN_leB 2 _ (by omega)]
    have g2 : getAt (encR R) 4 4 = (R.getD 2 0).toNat := by
      rw [getAt, d4, take_app (leB_length 4 _), leN_leB 4 _ (by omega)]
    rw [getR, g0, g1, g2, Int.toNat_of_nonneg k0, Int.toNat_of_nonneg l0, Int.toNat_of_nonneg s0]
    congr 1
    apply List.ext_getElem
    · rw [List.length_map, List.length_range, List.length_drop, h]
    · intro i h1 h2
      rw [List.length_map, List.length_range] at h1
      rw [List.getElem_map, List.getElem_range, getAt, ← List.drop_drop, d8, flat4_part _ i h2, leN_leB 4 _ (by have := (hw _ (List.getElem_mem h2)).2; have := (hw _ (List.getElem_mem h2)).1; omega), Int.toNat_of_nonneg (hw _ (List.getElem_mem h2)).1]
  · rw [clean, d1, d56]; rfl
theorem flat4_get (bs : List UInt8) : ∀ k, 8 + 4 * k ≤ bs.length → flat4 ((List.range k).map fun i => (getAt bs (8 + 4 * i) 4 : Int)) = (bs.drop 8).take (4 * k) := by
  intro k
  induction k with
  | zero => intro _; rfl
  | succ k ih =>
    intro hk
    have e := ih (by omega)
    rw [List.range_succ, List.map_append, flat4, List.flatMap_append]
    rw [flat4] at e
    rw [e]
    have l4 : ((bs.drop (8 + 4 * k)).take 4).length = 4 := by rw [List.length_take, List.length_drop]; omega
    have : leB 4 (getAt bs (8 + 4 * k) 4) = (bs.drop (8 + 4 * k)).take 4 := by
      have := leB_leN ((bs.drop (8 + 4 * k)).take 4)
      rw [l4] at this; exact this
    show _ ++ (leB 4 ((getAt bs (8 + 4 * k) 4 : Int)).toNat ++ []) = _
    rw [Int.toNat_natCast, this, List.append_nil, show 4 * (k + 1) = 4 * k + 4 by omega, List.take_add, List.drop_drop]
theorem zero_of {xs : List UInt8} (h : allZero xs = true) : xs = zeros xs.length := allZero_zeros h
/-- bytes are those of their record just when the two gaps are clean -/
theorem enc_getR {bs : List UInt8} (hb : bs.length = 64) : encR (getR bs) = bs ↔ clean bs = true := by
  have g0 : leB 1 (getAt bs 0 1) = bs.take 1 := by
    have := leB_leN (bs.take 1)
    rw [List.length_take, show min 1 bs.length = 1 by omega] at this
    rw [getAt, List.drop_zero]; exact this
  have g1 : leB 2 (getAt bs 2 2) = (bs.drop 2).take 2 := by
    have := leB_leN ((bs.drop 2).take 2)
    rw [List.length_take, List.length_drop, show min 2 (bs.length - 2) = 2 by omega] at this
    exact this
  have g2 : leB 4 (getAt bs 4 4) = (bs.drop 4).take 4 := by
    have := leB_leN ((bs.drop 4).take 4)
    rw [List.length_take, List.length_drop, show min 4 (bs.length - 4) = 4 by omega] at this
    exact this
  have g3 : flat4 ((getR bs).drop 3) = (bs.drop 8).take 48 := by
    have := flat4_get bs 12 (by omega)
    exact this
  have ee : encR (getR bs) = bs.take 1 ++ ([0] ++ ((bs.drop 2).take 2 ++ ((bs.drop 4).take 4 ++ ((bs.drop 8).take 48 ++ zeros 8)))) := by
    rw [encR, g3]
    show leB 1 ((getAt bs 0 1 : Nat) : Int).toNat ++ ([0] ++ (leB 2 ((getAt bs 2 2 : Nat) : Int).toNat ++ (leB 4 ((getAt bs 4 4 : Nat) : Int).toNat ++ _))) = _
    rw [Int.toNat_natCast, Int.toNat_natCast, Int.toNat_natCast, g0, g1, g2]
  have eb : bs = bs.take 1 ++ ((bs.drop 1).take 1 ++ ((bs.drop 2).take 2 ++ ((bs.drop 4).take 4 ++ ((bs.drop 8).take 48 ++ (bs.drop 56).take 8)))) := by
    have t8 : (bs.drop 56).take 8 = bs.drop 56 := List.take_of_length_le (by rw [List.length_drop]; omega)
    rw [t8]
    have s1 := drop_split bs 8 48
    have s2 := drop_split bs 4 4
    have s3 := drop_split bs 2 2
    have s4 := drop_split bs 1 1
    have s5 := drop_split bs 0 1
    rw [List.drop_zero] at s5
    conv => lhs; rw [s5, s4, s3, s2, s1]
  have l1 : ((bs.drop 1).take 1).length = 1 := by rw [List.length_take, List.length_drop]; omega
  have l8 : ((bs.drop 56).take 8).length = 8 := by rw [List.length_take, List.length_drop]; omega
  constructor
  · intro h
    obtain ⟨d1, _, _, _, d56⟩ := encR_drops (getR_length bs)
    rw [← congrArg clean h, clean, d1, d56]; rfl
  · intro h
    rw [clean, Bool.and_eq_true] at h
    have z1 := zero_of h.1
    have z2 := zero_of h.2
    rw [l1] at z1
    rw [l8] at z2
    rw [ee]
    conv => rhs; rw [eb, z1, z2]
    rfl
end Go.Proofs.YtcdpakjhjmchhaaDoor.In
