/-
  LAW HeadBursts, plainly: a header or a block with a burst in it is not good.
-/
import Derived.Test.YtnlmieklakolkaaDoorCrB
namespace Go.Proofs.YtnlmieklakolkaaDoor.Cr
open Go Go.Proofs Go.Proofs.YtnlmieklakolkaaDoor.Wx Go.Proofs.YtnlmieklakolkaaDoor.Hp Go.Proofs.YtnlmieklakolkaaDoor.W Go.Proofs.YtnlmieklakolkaaDoor.Su Go.Proofs.YtnlmieklakolkaaDoor.Re Go.Proofs.YtnlmieklakolkaaDoor.Hd

theorem fl_none {at_ : Nat} {c : Nat → Bool} {xs : List UInt8} : ∀ n, (∀ m, m < n → c m = false) → fl at_ c xs n = xs
  | 0, _ => rfl
  | n + 1, h => by rw [fl, h n (by omega), cond_false, fl_none n fun m hm => h m (by omega)]
theorem fl_byte {at_ : Nat} {c : Nat → Bool} {xs : List UInt8} {q : Nat} : ∀ n, (∀ m, m < n → c m = true → (at_ + m) / 8 ≠ q) → (fl at_ c xs n)[q]? = xs[q]?
  | 0, _ => rfl
  | n + 1, h => by
    rw [fl]
    cases hc : c n with
    | true => rw [cond_true, flip, List.getElem?_set_ne (h n (by omega) hc)]; exact fl_byte n fun m hm => h m (by omega)
    | false => rw [cond_false]; exact fl_byte n fun m hm => h m (by omega)
theorem putU_get {xs z : List UInt8} {o : Nat} (h : o + z.length ≤ xs.length) (q : Nat) : (putU xs o z)[q]? = if q < o then xs[q]? else if q < o + z.length then z[q - o]? else xs[q]? := by
  have hl : (xs.take o).length = o := by rw [List.length_take]; omega
  unfold putU
  by_cases h1 : q < o
  · rw [if_pos h1, List.append_assoc, List.getElem?_append_left (by omega), List.getElem?_take_of_lt h1]
  · rw [if_neg h1]
    by_cases h2 : q < o + z.length
    · rw [if_pos h2, List.getElem?_append_left (by rw [List.length_append]; omega), List.getElem?_append_right (by omega), hl]
    · rw [if_neg h2, List.getElem?_append_right (by rw [List.length_append]; omega), List.length_append, hl, List.getElem?_drop]
      congr 1; omega
theorem flip_putU {xs z : List UInt8} {o j : Nat} (h : o + z.length ≤ xs.length) (hj : ¬ (o ≤ j / 8 ∧ j / 8 < o + z.length)) : flip (putU xs o z) j = putU (flip xs j) o z := by
  apply List.ext_getElem?
  intro q
  have hf : o + z.length ≤ (flip xs j).length := by rw [flip_length]; exact h
  rw [putU_get hf]
  have e1 : (putU xs o z).getD (j / 8) 0 = xs.getD (j / 8) 0 := by
    rw [List.getD_eq_getElem?_getD, putU_get h, List.getD_eq_getElem?_getD]
    by_cases h1 : j / 8 < o
    · rw [if_pos h1]
    · rw [if_neg h1, if_neg (by omega)]
  unfold flip
  rw [e1]
  by_cases hq : j / 8 = q
  · subst hq
    have hn : ¬ (¬ j / 8 < o ∧ j / 8 < o + z.length) := by omega
    by_cases hlt : j / 8 < xs.length
    · rw [List.getElem?_set_self (by rw [putU_length h]; exact hlt)]
      by_cases h1 : j / 8 < o
      · rw [if_pos h1, List.getElem?_set_self hlt]
      · rw [if_neg h1, if_neg (by omega), List.getElem?_set_self hlt]
    · rw [List.getElem?_eq_none (by rw [List.length_set, putU_length h]; omega)]
      by_cases h1 : j / 8 < o
      · omega
      · rw [if_neg h1, if_neg (by omega), List.getElem?_eq_none (by rw [List.length_set]; omega)]
  · rw [List.getElem?_set_ne hq, putU_get h, List.getElem?_set_ne hq]
theorem fl_putU {at_ : Nat} {c : Nat → Bool} {xs z : List UInt8} {o : Nat} (h : o + z.length ≤ xs.length) (hc : ∀ m, c m = true → ¬ (o ≤ (at_ + m) / 8 ∧ (at_ + m) / 8 < o + z.length)) : ∀ n, fl at_ c (putU xs o z) n = putU (fl at_ c xs n) o z
  | 0 => rfl
  | n + 1 => by
    rw [fl, fl]
    cases hcn : c n with
    | true => rw [cond_true, cond_true, fl_putU h hc n, flip_putU (by rw [fl_length]; exact h) (hc n hcn)]
    | false => rw [cond_false, cond_false, fl_putU h hc n]
def str (b : Nat) : Nat := if b < 96 then 0 else if b < 128 then 1 else 2
theorem leB_four : (leB 4 0).length = 4 := leB_length 4 0
/-- a header that is turned -/
theorem burst_head {ns : List Int} {ds : List (List UInt8)} {s at_ : Nat} {c : Nat → Bool} (hm : mayM ns 16384 = true) (hs : (s : Int) = sumM (laidM ns 0) ds) (hc : ∀ m, c m = true → at_ + m < 4096) (hst : ∀ m, c m = true → str (at_ + m) = str at_) (hn : ∃ m, m < 32 ∧ c m = true) :
    goodM (fl at_ c (laidM ns s) 32) 16384 ds = false := by
  obtain ⟨hmem, hl1, hl2⟩ := mayM_mem hm
  have hl := laid_length ns s (by omega)
  have us := sum_range (laidM ns 0) ds
  obtain ⟨u0, u1⟩ := us
  have hc8 : ∀ m, c m = true → at_ + m < 8 * (laidM ns s).length := fun m h => by have := hc m h; omega
  cases hg : goodM (fl at_ c (laidM ns s) 32) 16384 ds with
  | false => rfl
  | true =>
    exfalso
    obtain ⟨_, _, _, _, hlaid⟩ := good_laid hg
    generalize (numsM (fl at_ c (laidM ns s) 32) 16384).1 = ns' at hlaid
    have us' := sum_range (laidM ns' 0) ds
    obtain ⟨v0, v1⟩ := us'
    have p1 : putU (fl at_ c (laidM ns s) 32) 12 (leB 4 0) = laidM ns' 0 := by rw [hlaid, laid_put]
    have p2 : putU (laidM ns s) 12 (leB 4 0) = laidM ns 0 := laid_put _ _ _
    have h12 : 12 + (leB 4 0).length ≤ (laidM ns s).length := by rw [leB_four, hl]; decide
    by_cases h1 : str at_ = 1
    · have hin : ∀ m, c m = true → 12 ≤ (at_ + m) / 8 ∧ (at_ + m) / 8 < 16 := fun m h => by
        have := hst m h
        rw [h1] at this
        unfold str at this
        split at this
        · exact absurd this (by decide)
        · split at this
          · omega
          · exact absurd this (by decide)
      have e : putU (fl at_ c (laidM ns s) 32) 12 (leB 4 0) = putU (laidM ns s) 12 (leB 4 0) := by
        apply List.ext_getElem?
        intro q
        rw [putU_get (by rw [fl_length]; exact h12), putU_get h12, leB_four]
        by_cases q1 : q < 12
        · rw [if_pos q1, if_pos q1]; exact fl_byte 32 fun m _ h => by have := hin m h; omega
        · rw [if_neg q1, if_neg q1]
          by_cases q2 : q < 12 + 4
          · rw [if_pos q2, if_pos q2]
          · rw [if_neg q2, if_neg q2]; exact fl_byte 32 fun m _ h => by have := hin m h; omega
      rw [p1, p2] at e
      have e2 : fl at_ c (laidM ns s) 32 = laidM ns s := by
        have a1 := laid_put ns' 0 s
        have a2 := laid_put ns 0 s
        rw [e] at a1
        rw [hlaid, e, show (sumM (laidM ns 0) ds).toNat = s by omega, ← a1, a2]
      exact fl_ne hc8 hn (by rw [e2])
    · have hout : ∀ m, c m = true → ¬ (12 ≤ (at_ + m) / 8 ∧ (at_ + m) / 8 < 12 + (leB 4 0).length) := fun m h x => by
        have := hst m h
        rw [leB_four] at x
        have : str (at_ + m) = 1 := by unfold str; rw [if_neg (by omega), if_pos (by omega)]
        rw [hst m h] at this
        exact h1 this
      have e4 : getAt (fl at_ c (laidM ns s) 32) 12 4 = getAt (laidM ns s) 12 4 := by
        unfold getAt
        congr 1
        apply List.ext_getElem?
        intro q
        by_cases hq : q < 4
        · rw [List.getElem?_take_of_lt hq, List.getElem?_take_of_lt hq, List.getElem?_drop, List.getElem?_drop]
          exact fl_byte 32 fun m _ h x => by have := hout m h; rw [leB_four] at this; omega
        · rw [List.getElem?_eq_none (by rw [List.length_take]; omega), List.getElem?_eq_none (by rw [List.length_take]; omega)]
      have g1 := laid_get ns (s := s) (by omega)
      have g2 : getAt (fl at_ c (laidM ns s) 32) 12 4 = (sumM (laidM ns' 0) ds).toNat := by rw [hlaid]; exact laid_get ns' (by omega)
      have es : sumM (laidM ns' 0) ds = sumM (laidM ns 0) ds := by rw [e4, g1] at g2; omega
      have q1 : sumM (laidM ns' 0) ds = sumM (fl at_ c (laidM ns s) 32) ds := by
        have := sum_laid ns' 0 (sumM (laidM ns' 0) ds).toNat ds
        rw [← hlaid] at this; exact this
      have q2 : sumM (laidM ns 0) ds = sumM (laidM ns s) ds := sum_laid ns 0 s ds
      rw [q1, q2] at es
      have := chain_inj ds _ _ (of_range _) (of_range _) es
      rw [← fl_putU h12 hout 32] at this
      exact fl_ne (xs := putU (laidM ns s) 12 (leB 4 0)) (fun m h => by rw [putU_length h12]; exact hc8 m h) hn this
/-- a block that is turned -/
theorem burst_block {ns : List Int} {ds : List (List UInt8)} {s at_ i : Nat} {c : Nat → Bool} (hm : mayM ns 16384 = true) (hs : (s : Int) = sumM (laidM ns 0) ds) (hi : i < ds.length) (hw : ds[i].length = 512) (hc : ∀ m, c m = true → at_ + m < 4096) (hn : ∃ m, m < 32 ∧ c m = true) :
    goodM (laidM ns s) 16384 (ds.set i (fl at_ c ds[i] 32)) = false := by
  obtain ⟨hmem, hl1, hl2⟩ := mayM_mem hm
  have us := sum_range (laidM ns 0) ds
  rw [laid_good hm (fun x hx => by have := hmem x hx; omega) (by have := us.2; omega), hs]
  have : sumM (laidM ns 0) ds ≠ sumM (laidM ns 0) (ds.set i (fl at_ c ds[i] 32)) := fun e =>
    chain_ne hi (b := fl at_ c ds[i] 32) (fl_length _ _ _ _) (fl_ne (fun m h => by have := hc m h; omega) hn) _ e.symm
  rw [beq_eq_false_iff_ne.mpr this, Bool.and_false]
end Go.Proofs.YtnlmieklakolkaaDoor.Cr
