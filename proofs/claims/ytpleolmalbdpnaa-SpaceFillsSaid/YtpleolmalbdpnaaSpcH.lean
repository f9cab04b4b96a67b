/-
  SPACE: the law SpaceFills, plainly.
-/
import Derived.Test.YtpleolmalbdpnaaSpcF
import Derived.Test.YtpleolmalbdpnaaWtA
namespace Go.Proofs.Ytpleolmalbdpnaa.Spc
open Go Go.Proofs Go.Proofs.Ytpleolmalbdpnaa.Wx Go.Proofs.Ytpleolmalbdpnaa.Hp Go.Proofs.Ytpleolmalbdpnaa.W Go.Proofs.Ytpleolmalbdpnaa.Ad Go.Proofs.Ytpleolmalbdpnaa.Tm Go.Proofs.Ytpleolmalbdpnaa.Bt Go.Proofs.Ytpleolmalbdpnaa.Rg

/-- a data block that is free -/
def pU (n : Nat) (U : Nat → Bool) (j : Nat) : Bool := decide (101 ≤ j) && (decide (j < n) && !U j)
theorem pU_iff {n : Nat} {U : Nat → Bool} {j : Nat} : pU n U j = true ↔ 101 ≤ j ∧ j < n ∧ U j = false := by
  unfold pU
  rw [Bool.and_eq_true, Bool.and_eq_true, decide_eq_true_eq, decide_eq_true_eq, Bool.not_eq_true']
def cntP (p : Nat → Bool) : Nat → Nat
  | 0 => 0
  | m + 1 => cntP p m + if p m = true then 1 else 0
theorem cntP_upd {p q : Nat → Bool} {i : Nat} (h : ∀ j, j ≠ i → p j = q j) (hp : p i = false) (hq : q i = true) : ∀ m, cntP q m = cntP p m + if i < m then 1 else 0
  | 0 => by rw [if_neg (by omega)]; rfl
  | m + 1 => by
    show cntP q m + (if q m = true then 1 else 0) = cntP p m + (if p m = true then 1 else 0) + _
    rw [cntP_upd h hp hq m]
    by_cases e : m = i
    · subst e
      rw [if_pos hq, if_neg (show ¬ p m = true by rw [hp]; simp), if_neg (show ¬ m < m by omega), if_pos (show m < m + 1 by omega)]
    · rw [h m e]
      by_cases e2 : i < m
      · rw [if_pos e2, if_pos (show i < m + 1 by omega)]; omega
      · rw [if_neg e2, if_neg (show ¬ i < m + 1 by omega)]; omega
theorem cntP_len (p : Nat → Bool) : ∀ m, cntP p m = ((List.range m).filter p).length
  | 0 => rfl
  | m + 1 => by
    rw [List.range_succ, List.filter_append, List.length_append, ← cntP_len p m]
    show cntP p m + (if p m = true then 1 else 0) = _
    by_cases e : p m = true
    · rw [if_pos e, List.filter_cons_of_pos e]; rfl
    · rw [if_neg e, List.filter_cons_of_neg e]; rfl
theorem cntP_hi {p : Nat → Bool} {n : Nat} (h : ∀ j, n ≤ j → p j = false) : ∀ d, cntP p (n + d) = cntP p n
  | 0 => rfl
  | d + 1 => by
    show cntP p (n + d) + (if p (n + d) = true then 1 else 0) = _
    rw [h (n + d) (by omega), cntP_hi h d, if_neg (by simp)]; rfl
theorem data101 {n : Nat} (h : 128 ≤ n ∧ n < 192) : (geoN n).data = 101 ∧ (geoN n).inodes = 99 ∧ (geoN n).bitmap = 98 ∧ (geoN n).blocks = n := by
  refine ⟨?_, ?_, rfl, rfl⟩
  · show 98 + (n + 4095) / 4096 + n / 64 = 101; omega
  · show 98 + (n + 4095) / 4096 = 99; omega
theorem St.pU {n u : Nat} {U : Nat → Bool} {Z : Nat → Txt} {ks : List Int} {T : TM} (a : St n U Z ks u T) (hn : 128 ≤ n ∧ n < 192) {m : Nat} (hm : m < 4096) : FreeAt T (geoN n) m ↔ pU n U m = true := by
  obtain ⟨e1, e2, e3, e4⟩ := data101 hn
  rw [a.free (by rw [e2]; omega), pU_iff, e1]
  exact ⟨fun x => ⟨x.2.1, x.2.2, x.1⟩, fun x => ⟨x.2.2, x.1, x.2.1⟩⟩
theorem St.cnt {n u : Nat} {U : Nat → Bool} {Z : Nat → Txt} {ks : List Int} {T : TM} (a : St n U Z ks u T) (hn : 128 ≤ n ∧ n < 192) : ∀ m, m ≤ 4096 → cntTo T (geoN n) m = cntP (Spc.pU n U) m
  | 0, _ => rfl
  | m + 1, h => by
    show cntTo T (geoN n) m + (if FreeAt T (geoN n) m then 1 else 0) = cntP (Spc.pU n U) m + (if Spc.pU n U m = true then 1 else 0)
    rw [a.cnt hn m (by omega)]
    by_cases e : Spc.pU n U m = true
    · rw [if_pos e, if_pos ((a.pU hn (by omega)).mpr e)]
    · rw [if_neg e, if_neg fun x => e ((a.pU hn (by omega)).mp x)]
/-- the free ones, rising -/
def frees (n : Nat) (U : Nat → Bool) : List Nat := (List.range n).filter (pU n U)
theorem frees_mem {n : Nat} {U : Nat → Bool} {j : Nat} : j ∈ frees n U ↔ pU n U j = true := by
  unfold frees
  rw [List.mem_filter, List.mem_range]
  exact ⟨fun x => x.2, fun x => ⟨(pU_iff.mp x).2.1, x⟩⟩
theorem frees_pw (n : Nat) (U : Nat → Bool) : (frees n U).Pairwise (· < ·) := List.Pairwise.filter _ List.pairwise_lt_range
theorem frees_lt {n : Nat} {U : Nat → Bool} {i j : Nat} (hi : i < j) (hj : j < (frees n U).length) : (frees n U)[i]'(by omega) < (frees n U)[j] := List.pairwise_iff_getElem.mp (frees_pw n U) i j (by omega) hj hi
theorem frees_inj {n : Nat} {U : Nat → Bool} {i j : Nat} (hi : i < (frees n U).length) (hj : j < (frees n U).length) (e : (frees n U)[i] = (frees n U)[j]) : i = j := by
  rcases Nat.lt_trichotomy i j with h | h | h
  · have := frees_lt h hj; omega
  · exact h
  · have := frees_lt h hi; omega
theorem frees_get {n : Nat} {U : Nat → Bool} {i : Nat} (hi : i < (frees n U).length) : 101 ≤ (frees n U)[i] ∧ (frees n U)[i] < n ∧ U (frees n U)[i] = false := pU_iff.mp (frees_mem.mp (List.getElem_mem hi))
theorem frees_len {n : Nat} (hn : n ≤ 4096) (U : Nat → Bool) : cntP (pU n U) 4096 = (frees n U).length := by
  have := cntP_hi (p := pU n U) (n := n) (fun j hj => by
    cases e : pU n U j with
    | false => rfl
    | true => have := (pU_iff.mp e).2.1; omega) (4096 - n)
  rw [show n + (4096 - n) = 4096 by omega] at this
  rw [this]; exact cntP_len _ _
theorem filter_len_le {α : Type} (p : α → Bool) (l : List α) : (l.filter p).length ≤ l.length := List.length_filter_le p l
theorem frees_le {n : Nat} {U : Nat → Bool} (h : 101 ≤ n) : (frees n U).length ≤ n - 101 := by
  have e : cntP (pU n U) 101 = 0 := by
    have := cntP_hi (p := fun _ => false) (n := 0) (fun _ _ => rfl) 101
    have h2 : ∀ m, m ≤ 101 → cntP (pU n U) m = 0 := by
      intro m
      induction m with
      | zero => intro _; rfl
      | succ m ih =>
        intro hm
        show cntP (pU n U) m + (if pU n U m = true then 1 else 0) = 0
        rw [ih (by omega), if_neg fun x => by have := (pU_iff.mp x).1; omega]
    exact h2 101 (Nat.le_refl _)
  have h3 : ∀ d, cntP (pU n U) (101 + d) ≤ d := by
    intro d
    induction d with
    | zero => rw [Nat.add_zero, e]; exact Nat.le_refl _
    | succ d ih =>
      show cntP (pU n U) (101 + d) + (if pU n U (101 + d) = true then 1 else 0) ≤ _
      split <;> omega
  have := h3 (n - 101)
  rw [show 101 + (n - 101) = n by omega, cntP_len] at this
  exact this
/-- the bits, as the law turns them: of the i-th that was free w i -/
structure Vw (n : Nat) (U0 : Nat → Bool) (w : Nat → Bool) (V : Nat → Bool) : Prop where
  at_ : ∀ (i : Nat) (h : i < (frees n U0).length), V (frees n U0)[i] = w i
  off : ∀ j, j ∉ frees n U0 → V j = U0 j
theorem Vw.free {n : Nat} {U0 w V : Nat → Bool} (a : Vw n U0 w V) {j : Nat} : pU n V j = true ↔ ∃ i, ∃ h : i < (frees n U0).length, (frees n U0)[i] = j ∧ w i = false := by
  constructor
  · intro x
    by_cases hm : j ∈ frees n U0
    · obtain ⟨i, h, e⟩ := List.mem_iff_getElem.mp hm
      refine ⟨i, h, e, ?_⟩
      rw [← a.at_ i h, e]; exact (pU_iff.mp x).2.2
    · exfalso
      have h1 := pU_iff.mp x
      rw [a.off j hm] at h1
      exact hm (frees_mem.mpr (pU_iff.mpr h1))
  · rintro ⟨i, h, e, hw⟩
    have h1 := frees_get h
    rw [← e]
    exact pU_iff.mpr ⟨h1.1, h1.2.1, by rw [a.at_ i h]; exact hw⟩
theorem Vw.upd {n : Nat} {U0 w V : Nat → Bool} (a : Vw n U0 w V) {i : Nat} (hi : i < (frees n U0).length) (b : Bool) : Vw n U0 (updB w i b) (updB V (frees n U0)[i] b) := by
  refine ⟨fun j hj => ?_, fun j hj => ?_⟩
  · unfold updB
    by_cases e : j = i
    · subst e; rw [if_pos rfl, if_pos rfl]
    · rw [if_neg e, if_neg fun x => e (frees_inj hj hi x)]; exact a.at_ j hj
  · unfold updB
    rw [if_neg (by rintro rfl; exact hj (List.getElem_mem hi))]; exact a.off j hj
theorem Vw.congr {n : Nat} {U0 w w' V : Nat → Bool} (a : Vw n U0 w V) (h : ∀ i, i < (frees n U0).length → w i = w' i) : Vw n U0 w' V := ⟨fun i hi => (a.at_ i hi).trans (h i hi), a.off⟩
theorem Vw.start (n : Nat) (U0 : Nat → Bool) : Vw n U0 (fun _ => false) U0 := ⟨fun _ hi => (frees_get hi).2.2, fun _ _ => rfl⟩
/-- one of them is turned: how many are free -/
theorem cnt_off {n : Nat} {U0 w V : Nat → Bool} (hn : n ≤ 4096) (a : Vw n U0 w V) {i : Nat} (hi : i < (frees n U0).length) (hw : w i = false) : cntP (pU n V) 4096 = cntP (pU n (updB V (frees n U0)[i] true)) 4096 + 1 := by
  have hg := frees_get hi
  have := cntP_upd (p := pU n (updB V (frees n U0)[i] true)) (q := pU n V) (i := (frees n U0)[i]) (fun j hj => by unfold pU updB; rw [if_neg hj]) (by
    unfold pU updB
    rw [if_pos rfl]; simp) (a.free.mpr ⟨i, hi, rfl, hw⟩) 4096
  rw [if_pos (by omega)] at this
  exact this
theorem cnt_on {n : Nat} {U0 w V : Nat → Bool} (hn : n ≤ 4096) (a : Vw n U0 w V) {i : Nat} (hi : i < (frees n U0).length) (hw : w i = true) : cntP (pU n (updB V (frees n U0)[i] false)) 4096 = cntP (pU n V) 4096 + 1 := by
  have hg := frees_get hi
  have := cntP_upd (p := pU n V) (q := pU n (updB V (frees n U0)[i] false)) (i := (frees n U0)[i]) (fun j hj => by unfold pU updB; rw [if_neg hj]) (by
    cases e : pU n V (frees n U0)[i] with
    | false => rfl
    | true =>
      have := (pU_iff.mp e).2.2
      rw [a.at_ i hi, hw] at this; cases this) (pU_iff.mpr ⟨hg.1, hg.2.1, by unfold updB; rw [if_pos rfl]⟩) 4096
  rw [if_pos (by omega)] at this
  exact this
/-! the order in which they are given back -/
def rot (L o k : Nat) : Nat := if k + o < L then k + o else k + o - L
def unrot (L o i : Nat) : Nat := if o ≤ i then i - o else i + L - o
theorem rot_lt {L o k : Nat} (ho : o < L) (hk : k < L) : rot L o k < L := by unfold rot; split <;> omega
theorem unrot_rot {L o k : Nat} (ho : o < L) (hk : k < L) : unrot L o (rot L o k) = k := by unfold rot unrot; split <;> split <;> omega
theorem unrot_ne {L o k i : Nat} (ho : o < L) (hk : k < L) (hi : i < L) (h : i ≠ rot L o k) : unrot L o i ≠ k := by unfold rot at h; unfold unrot; split at h <;> split <;> omega
theorem unrot_lt {L o i : Nat} (ho : o < L) (hi : i < L) : unrot L o i < L := by unfold unrot; split <;> omega
theorem mod_rot {L o k : Nat} (ho : o < L) (hk : k < L) : modI ((k : Int) + (o : Int)) (L : Int) = (rot L o k : Nat) := by
  have e : Int.tmod ((k : Int) + (o : Int)) (L : Int) = (((k + o) % L : Nat) : Int) := by
    rw [show (k : Int) + (o : Int) = ((k + o : Nat) : Int) by omega]; rfl
  unfold modI
  rw [e, if_neg (by omega)]
  unfold rot
  split
  · rw [Nat.mod_eq_of_lt (by omega)]
  · rw [Nat.mod_eq_sub_mod (by omega), Nat.mod_eq_of_lt (by omega)]
end Go.Proofs.Ytpleolmalbdpnaa.Spc
