import Derived.Test.YtcdpakjhjmchhaaGreatDoorBmR
import Derived.Test.YtcdpakjhjmchhaaGreatDoorTmC
/-
  bolelaw10: same, samePairs, index.
-/
namespace Go.Proofs.YtcdpakjhjmchhaaGreatDoor.Bm
open Go Go.Proofs Go.Proofs.YtcdpakjhjmchhaaGreatDoor.Wx Go.Proofs.YtcdpakjhjmchhaaGreatDoor.Hp Go.Proofs.YtcdpakjhjmchhaaGreatDoor.W Go.Proofs.YtcdpakjhjmchhaaGreatDoor.Ad Go.Proofs.YtcdpakjhjmchhaaGreatDoor.Tm Go.Proofs.YtcdpakjhjmchhaaGreatDoor.Spc Go.Proofs.YtcdpakjhjmchhaaGreatDoor.Re Go.Proofs.YtcdpakjhjmchhaaGreatDoor.Av
open Go.Proofs.YtcdpakjhjmchhaaGreatDoor.Hd (ints ints_get)

theorem same_spec {a b : Option Addr} {ac bc : Nat} {xs ys : List Int} {h : Heap} {K : Value → Heap → Prop} (A : SlCells h a (ints xs)) (B : SlCells h b (ints ys)) (hl : xs.length ≤ 140737488355328) (hK : K (.bool (decide (xs = ys))) h) : C.bolelaw10_same a xs.length ac b ys.length bc h K := by
  refine bolelaw10_same.ok (cn (fun y => ?_) fun y => ?_)
  · rw [decide_eq_false (fun e => y (by rw [e]))] at hK; exact hK
  have el : xs.length = ys.length := by omega
  refine ⟨fun i hh => ∃ j : Nat, i = j ∧ j ≤ xs.length ∧ hh = h ∧ xs.take j = ys.take j, fun i _ => ((xs.length : Int) - i).toNat, ⟨0, rfl, Nat.zero_le _, rfl, rfl⟩, ?_⟩
  rintro _ _ ⟨j, rfl, hj, rfl, et⟩
  refine cd (fun hlt => ?_) fun hlt => ?_
  · have h1 : j < xs.length := by omega
    have h2 : j < ys.length := by omega
    obtain ⟨p, ep, cp⟩ := ints_get A h1
    obtain ⟨q, eq, cq⟩ := ints_get B h2
    rw [Int.toNat_natCast]
    refine ⟨⟨by omega, hlt⟩, Tm.oe ep ⟨_, cp, ⟨by omega, by omega⟩, Tm.oe eq ⟨_, cq, cn (fun z => ?_) fun z => ?_⟩⟩⟩
    · rw [decide_eq_false (fun e => z (by subst e; rfl))] at hK; exact hK
    · rw [wrap_i64 (by omega) (by omega)]
      exact ⟨⟨j + 1, by omega, h1, rfl, by rw [take_snoc _ _ h1, take_snoc _ _ h2, et, z]⟩, falls hlt⟩
  · have ej : j = xs.length := by omega
    have e : xs = ys := by
      rw [List.take_of_length_le (by omega), List.take_of_length_le (by omega)] at et; exact et
    rw [decide_eq_true e] at hK; exact hK
theorem pair_at {h : Heap} {a : Option Addr} {xs : List (Int × Int)} (A : SlCells h a (xs.flatMap pcellA)) {j : Nat} (hj : j < xs.length) : ∃ p, a = some p ∧ Cells h (p.add (j * 2)) (pcellA xs[j]) := by
  have hw : ∀ r ∈ xs, (pcellA r).length = 2 := fun _ _ => rfl
  cases a with
  | none =>
    have c : xs.flatMap pcellA = [] := A
    have := flat_length pcellA 2 xs hw
    rw [c] at this
    exact absurd this (by simp; omega)
  | some p =>
    refine ⟨p, rfl, ?_⟩
    have := Cells.take (Cells.drop A (j * 2)) 2
    rw [flat_part pcellA 2 xs hw j hj] at this
    exact this
theorem pcell_eq (x y : Int × Int) : cellsEq (pcellA x) (pcellA y) = decide (x = y) := by
  obtain ⟨a, b⟩ := x
  obtain ⟨c, d⟩ := y
  show ((a == c) && ((b == d) && true)) = _
  rw [Bool.and_true, Bool.eq_iff_iff, Bool.and_eq_true, beq_iff_eq, beq_iff_eq, decide_eq_true_iff, Prod.mk.injEq]
theorem samePairs_spec {a b : Option Addr} {ac bc : Nat} {xs ys : List (Int × Int)} {h : Heap} {K : Value → Heap → Prop} (A : SlCells h a (xs.flatMap pcellA)) (B : SlCells h b (ys.flatMap pcellA)) (hl : xs.length ≤ 140737488355328) (hK : K (.bool (decide (xs = ys))) h) : C.bolelaw10_samePairs a xs.length ac b ys.length bc h K := by
  refine bolelaw10_samePairs.ok (cn (fun y => ?_) fun y => ?_)
  · rw [decide_eq_false (fun e => y (by rw [e]))] at hK; exact hK
  have el : xs.length = ys.length := by omega
  refine ⟨fun i hh => ∃ j : Nat, i = j ∧ j ≤ xs.length ∧ hh = h ∧ xs.take j = ys.take j, fun i _ => ((xs.length : Int) - i).toNat, ⟨0, rfl, Nat.zero_le _, rfl, rfl⟩, ?_⟩
  rintro _ _ ⟨j, rfl, hj, rfl, et⟩
  refine cd (fun hlt => ?_) fun hlt => ?_
  · have h1 : j < xs.length := by omega
    have h2 : j < ys.length := by omega
    obtain ⟨p, ep, cp⟩ := pair_at A h1
    obtain ⟨q, eq, cq⟩ := pair_at B h2
    rw [Int.toNat_natCast]
    refine ⟨⟨by omega, hlt⟩, Tm.oe ep ⟨_, rfl, cp, ⟨by omega, by omega⟩, Tm.oe eq ⟨_, rfl, cq, rfl, cnot ?_⟩⟩⟩
    rw [pcell_eq]
    refine cd (fun z => ?_) fun z => ?_
    · rw [wrap_i64 (by omega) (by omega)]
      exact ⟨⟨j + 1, by omega, h1, rfl, by rw [take_snoc _ _ h1, take_snoc _ _ h2, et, z]⟩, falls hlt⟩
    · rw [decide_eq_false (fun e => z (by subst e; rfl))] at hK; exact hK
  · have e : xs = ys := by
      rw [List.take_of_length_le (by omega), List.take_of_length_le (by omega)] at et; exact et
    rw [decide_eq_true e] at hK; exact hK
/-- an index out of any number -/
def idxN (v : Int) : Nat := (IntKind.wrap .u64 v % 16522).toNat
theorem idxN_lt (v : Int) : idxN v < 16522 := by
  have := u64_nat v
  unfold idxN; omega
theorem index_spec {v : Int} {h : Heap} {K : Value → Heap → Prop} (hK : K (.int .i64 (idxN v : Nat)) h) : C.bolelaw10_index v h K := by
  have u := u64_nat v
  refine bolelaw10_index.ok ?_
  unfold bolelaw10_index
  have e1 : Int.tmod (IntKind.wrap .u64 v) 16522 = IntKind.wrap .u64 v % 16522 := Int.tmod_eq_emod_of_nonneg u.1
  rw [e1, wrap_i64 (by omega) (by omega)]
  have e2 : IntKind.wrap .u64 v % 16522 = ((idxN v : Nat) : Int) := by unfold idxN; omega
  rw [e2]; exact hK
end Go.Proofs.YtcdpakjhjmchhaaGreatDoor.Bm
/-
  RANGES OVER MAPS of numbers by numbers: what is left, as a number; frames.
-/
namespace Go.Proofs.YtcdpakjhjmchhaaGreatDoor.Rm
open Go Go.Proofs Go.Proofs.YtcdpakjhjmchhaaGreatDoor.Wx Go.Proofs.YtcdpakjhjmchhaaGreatDoor.Hp Go.Proofs.YtcdpakjhjmchhaaGreatDoor.W Go.Proofs.YtcdpakjhjmchhaaGreatDoor.Tm

end Go.Proofs.YtcdpakjhjmchhaaGreatDoor.Rm
/-
  bolelaw10: takes.
-/
namespace Go.Proofs.YtcdpakjhjmchhaaGreatDoor.Bm
open Go Go.Proofs Go.Proofs.YtcdpakjhjmchhaaGreatDoor.Wx Go.Proofs.YtcdpakjhjmchhaaGreatDoor.Hp Go.Proofs.YtcdpakjhjmchhaaGreatDoor.W Go.Proofs.YtcdpakjhjmchhaaGreatDoor.Ad Go.Proofs.YtcdpakjhjmchhaaGreatDoor.Tm Go.Proofs.YtcdpakjhjmchhaaGreatDoor.Spc Go.Proofs.YtcdpakjhjmchhaaGreatDoor.Re Go.Proofs.YtcdpakjhjmchhaaGreatDoor.Av Go.Proofs.YtcdpakjhjmchhaaGreatDoor.Rm

/-- the tables that an index needs, as takes names them -/
def tkeys (k : Int) : List Int := if k ≥ 138 then [-1, (k - 138) / 128] else if k ≥ 10 then [-2] else []
theorem aput_dom (i v : Int) (m : List (Int × Int)) (h : (m.map (·.1)).Nodup) : ((aput m i v).map (·.1)).Nodup ∧ ∀ x, x ∈ (aput m i v).map (·.1) ↔ x = i ∨ x ∈ m.map (·.1) := by
  rw [aput_keys]
  split
  · rename_i e
    constructor
    · rw [List.nodup_append]
      refine ⟨h, by simp, fun a ha b hb => ?_⟩
      rw [List.mem_singleton] at hb
      subst hb
      obtain ⟨p, hp, rfl⟩ := List.mem_map.mp ha
      exact aget_none.mp e p hp
    · intro x
      rw [List.mem_append, List.mem_singleton]; exact Or.comm
  · rename_i e
    refine ⟨h, fun x => ⟨.inr, fun hx => ?_⟩⟩
    rcases hx with rfl | hx
    · cases e2 : aget m x with
      | none => exact absurd e2 e
      | some b => exact List.mem_map.mpr ⟨_, aget_mem e2, rfl⟩
    · exact hx
end Go.Proofs.YtcdpakjhjmchhaaGreatDoor.Bm
