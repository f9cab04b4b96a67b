/-
  LAW AdiskLasts: plain facts, and its end.
-/
import Derived.Test.YtnbfaokpaiiojaaL3G
namespace Go.Proofs.Ytnbfaokpaiiojaa.L3
open Go Go.Proofs Go.Proofs.Ytnbfaokpaiiojaa.Wx Go.Proofs.Ytnbfaokpaiiojaa.Hp Go.Proofs.Ytnbfaokpaiiojaa.W Go.Proofs.Ytnbfaokpaiiojaa.Ad

theorem flat_blk (nb : List (List UInt8)) : nb.flatten.map bv = nb.flatMap blk := by
  rw [List.map_flatten]; rfl
theorem readFrom_apply : ∀ (ps : List (Int × List UInt8)) (ls : List (List UInt8)) (i : Nat) (hi : i < ls.length), (∀ x ∈ ps, 0 ≤ x.1 ∧ x.1 < ls.length) →
    some (readFrom ls[i] i ps) = (applyTo ls ps)[i]? := by
  intro ps
  induction ps with
  | nil => intro ls i hi _; simp [readFrom, applyTo, hi]
  | cons p r ih =>
    intro ls i hi hp
    have h0 := hp p (List.mem_cons_self ..)
    simp only [readFrom, applyTo, List.foldl_cons]
    have := ih (ls.set p.1.toNat p.2) i (by rw [List.length_set]; exact hi) (fun x hx => by rw [List.length_set]; exact hp x (List.mem_cons_of_mem _ hx))
    simp only [readFrom, applyTo] at this
    rw [← this]
    congr 2
    rw [List.getElem_set]
    by_cases e : p.1 = i
    · rw [if_pos e, if_pos (by omega)]
    · rw [if_neg e, if_neg (by omega)]
theorem chosen_true (ps : List (Int × List UInt8)) : chosen ps (List.replicate ps.length true) = ps := by
  induction ps with
  | nil => rfl
  | cons p r ih => simp only [chosen, List.length_cons, List.replicate_succ, List.zip_cons_cons, List.filter_cons, if_true, List.map_cons] at ih ⊢; rw [ih]
theorem chosen_false (ps : List (Int × List UInt8)) : chosen ps (List.replicate ps.length false) = [] := by
  induction ps with
  | nil => rfl
  | cons p r ih => simp only [chosen, List.length_cons, List.replicate_succ, List.zip_cons_cons, List.filter_cons, Bool.false_eq_true, if_false] at ih ⊢; exact ih
theorem applyTo_len (ps : List (Int × List UInt8)) : ∀ ls, (∀ x ∈ ls, x.length = 512) → (∀ x ∈ ps, x.2.length = 512) → ∀ x ∈ applyTo ls ps, x.length = 512 := by
  induction ps with
  | nil => intro ls h _; exact h
  | cons p r ih =>
    intro ls h hp
    refine ih _ (fun x hx => ?_) (fun x hx => hp x (List.mem_cons_of_mem _ hx))
    rcases List.mem_or_eq_of_mem_set hx with hx | rfl
    · exact h x hx
    · exact hp p (List.mem_cons_self ..)
/-- what is known of a disk behind orders: none is down -/
structure La (h0 : Heap) (q : Option Addr) (N i : Nat) (hh : Heap) (S : RD) (col : Nat → Nat) : Prop where
  D : DiskAt hh q S col 10
  down : S.down = false
  left : S.left = 0
  N : S.lasts.length = N
  pend : S.pend.length ≤ i
  tape : S.tape.length ≤ i
  pw : ∀ x ∈ S.pend, x.2.length = 512
  pi : ∀ x ∈ S.pend, 0 ≤ x.1 ∧ x.1 < S.lasts.length
  lw : ∀ x ∈ S.lasts, x.length = 512
  fr : Fr No h0 hh
  free : Free h0 col 10
theorem lasts2 {q : Option Addr} {h h0 : Heap} {K : Value → Heap → Prop} {S : RD} {col : Nat → Nat} (D : DiskAt h q S col 10) (hd : S.down = true) (hp : S.pend = []) (F : Fr No h0 h) (hK : ∀ h', Fr No h0 h' → K (.bool true) h') :
    bolelaw03_AdiskLasts.k2 q h (mkStr S.lasts.flatten) K := by
  refine Read_spec D (fun _ => ⟨_, _, _, _, rfl, ?_⟩) (fun x => by rw [hd] at x; exact Bool.noConfusion x) (fun x => by rw [hd] at x; exact Bool.noConfusion x)
  refine Image_spec D fun a c h17 f17 s17 => ⟨_, _, _, rfl, _, s17.str, ct (beq_self_eq_true _) (ct rfl ?_)⟩
  have D17 := D.keep f17 (Ag.refl _ _) (fun _ _ _ x => x)
  refine Ad.Down_spec D17 ⟨_, rfl, ct hd (Pending_spec D17 (by rw [hp]; decide) fun a' c' h19 f19 s19 => ⟨_, _, _, rfl, ?_⟩)⟩
  rw [hp]
  exact hK _ ((F.no f17).no f19)
end Go.Proofs.Ytnbfaokpaiiojaa.L3
