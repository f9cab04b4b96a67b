/-
  THE DOCUMENT'S OWN TRANSACTION (boleref06, over boleref03): one that does what a transaction does.
-/
import Derived.Test.YtcdpakjhjmchhaaGreatDoorTmD
import Derived.Test.YtcdpakjhjmchhaaGreatDoorWtA
import Derived.Test.YtcdpakjhjmchhaaGreatDoorReI
namespace Go.Proofs.YtcdpakjhjmchhaaGreatDoor.Rx
open Go Go.Proofs Go.Proofs.YtcdpakjhjmchhaaGreatDoor.Wx Go.Proofs.YtcdpakjhjmchhaaGreatDoor.Hp Go.Proofs.YtcdpakjhjmchhaaGreatDoor.W Go.Proofs.YtcdpakjhjmchhaaGreatDoor.Ad Go.Proofs.YtcdpakjhjmchhaaGreatDoor.Tm Go.Proofs.YtcdpakjhjmchhaaGreatDoor.Spc Go.Proofs.YtcdpakjhjmchhaaGreatDoor.Re

/-! plainly -/
def lget (row : List (Int × Txt)) (i : Int) : Option Txt := row.foldl (fun o p => if p.1 = i then some p.2 else o) none
theorem lget_snoc (row : List (Int × Txt)) (p : Int × Txt) (i : Int) : lget (row ++ [p]) i = if p.1 = i then some p.2 else lget row i := by
  unfold lget; rw [List.foldl_append]; rfl
theorem lget_mem {i : Int} : ∀ {n : Nat} {row : List (Int × Txt)}, row.length = n → ∀ {b : Txt}, lget row i = some b → (i, b) ∈ row
  | 0, row, hn, b, e => by rw [List.eq_nil_of_length_eq_zero hn] at e; cases e
  | n + 1, row, hn, b, e => by
    have ne : row ≠ [] := by intro y; rw [y] at hn; cases hn
    rw [← List.dropLast_concat_getLast ne] at e ⊢
    rw [lget_snoc] at e
    split at e
    · rename_i h; cases e; subst h; exact List.mem_append_right _ (List.mem_singleton.mpr rfl)
    · exact List.mem_append_left _ (lget_mem (n := n) (by rw [List.length_dropLast, hn]; rfl) e)
structure RM where
  first : Txt
  out : Bool
  row : List (Int × Txt)
  ends : Bool
def RM.N (M : RM) : Nat := M.first.length / 512
def RM.read (M : RM) (i : Int) : Txt × Int :=
  if M.ends = true then ([], 61) else if i < 0 ∨ i ≥ M.N then ([], 31) else match lget M.row i with
    | some b => (b, 0)
    | none => if M.out = true then ([], 30) else ((M.first.drop (i.toNat * 512)).take 512, 0)
def keysTo (M : RM) (k : Nat) : List Int := ((List.range' 98 k).filter fun i => (lget M.row ((i : Nat) : Int)).isSome).map fun i : Nat => ((i : Nat) : Int)
theorem keysTo_succ (M : RM) (k : Nat) : keysTo M (k + 1) = keysTo M k ++ if (lget M.row ((98 + k : Nat) : Int)).isSome = true then [((98 + k : Nat) : Int)] else [] := by
  unfold keysTo
  rw [List.range'_concat, List.filter_append, List.map_append, Nat.one_mul]
  congr 1
  by_cases h : (lget M.row ((98 + k : Nat) : Int)).isSome = true
  · rw [if_pos h]; simp only [List.filter, h, List.map]
  · rw [if_neg h]; simp only [List.filter, h, List.map]
def RM.written (M : RM) : List Int := if M.ends = true then [] else keysTo M (M.N - 98)
theorem mem_keysTo {M : RM} {k : Nat} {x : Int} : x ∈ keysTo M k ↔ 98 ≤ x ∧ x < 98 + k ∧ (lget M.row x).isSome = true := by
  unfold keysTo
  rw [List.mem_map]
  constructor
  · rintro ⟨a, ha, rfl⟩
    rw [List.mem_filter, List.mem_range'_1] at ha
    exact ⟨by omega, by omega, ha.2⟩
  · rintro ⟨h1, h2, h3⟩
    refine ⟨x.toNat, ?_, by omega⟩
    rw [List.mem_filter, List.mem_range'_1]
    refine ⟨by omega, ?_⟩
    rw [show ((x.toNat : Nat) : Int) = x by omega]; exact h3
theorem keysTo_lt (M : RM) (k : Nat) : (keysTo M k).Pairwise (· < ·) := by
  unfold keysTo
  rw [List.pairwise_map]
  have h : (List.range' 98 k).Pairwise (· < ·) := List.pairwise_lt_range'
  exact ((h.sublist (List.filter_sublist)).imp fun h => by omega)
theorem le_trans_b : ∀ a b c : Int, decide (a ≤ b) = true → decide (b ≤ c) = true → decide (a ≤ c) = true := fun a b c h1 h2 => decide_eq_true (Int.le_trans (of_decide_eq_true h1) (of_decide_eq_true h2))
theorem le_total_b : ∀ a b : Int, (decide (a ≤ b) || decide (b ≤ a)) = true := fun a b => by
  rcases Int.le_total a b with h | h
  · rw [decide_eq_true h]; rfl
  · rw [decide_eq_true h, Bool.or_true]
theorem sortZ_eq {l m : List Int} (h : l.Nodup) (hm : m.Pairwise (· < ·)) (hs : ∀ x, x ∈ l ↔ x ∈ m) : sortZ l = m := by
  have hp0 : (sortZ l).Perm l := List.mergeSort_perm l _
  have hlt : (sortZ l).Pairwise (· < ·) := by
    have h1 : (sortZ l).Pairwise fun x y => decide (x ≤ y) = true := List.pairwise_mergeSort le_trans_b le_total_b l
    have h2 : (sortZ l).Nodup := hp0.nodup_iff.mpr h
    exact (h1.and h2).imp fun ⟨a, b⟩ => by have := of_decide_eq_true a; omega
  have hmn : m.Nodup := hm.imp fun h => by omega
  have hp : (sortZ l).Perm m := hp0.trans ((List.perm_ext_iff_of_nodup h hmn).mpr hs)
  exact List.Perm.eq_of_pairwise (le := (· < ·)) (fun a b _ _ h1 h2 => by omega) hlt hm hp
/-- the document's transaction is as this one -/
structure Sim (T : TM) (M : RM) : Prop where
  ends : M.ends = T.over
  n : M.first.length = 512 * T.N
  out : M.out = T.disk.down
  base : T.disk.down = false → ∀ k, k < T.N → readAt T.disk k = (M.first.drop (k * 512)).take 512
  gone : T.over = true → T.put = [] ∧ T.undo = []
  un : T.over = false → T.undo.length = M.row.length
  nd : T.over = false → ∀ k, k ≤ M.row.length → ((undoAll T.put (T.undo.drop k)).map (·.1)).Nodup
  get : T.over = false → ∀ k, k ≤ M.row.length → ∀ i, aget (undoAll T.put (T.undo.drop k)) i = lget (M.row.take k) i
  rr : ∀ p ∈ M.row, 98 ≤ p.1 ∧ p.1 < T.N ∧ p.2.length = 512
theorem Sim.N {T : TM} {M : RM} (s : Sim T M) : M.N = T.N := by unfold RM.N; rw [s.n, Nat.mul_div_cancel_left _ (by decide)]
theorem Sim.now {T : TM} {M : RM} (s : Sim T M) (h : T.over = false) (i : Int) : aget T.put i = lget M.row i := by
  have := s.get h M.row.length (Nat.le_refl _) i
  rw [← s.un h, List.drop_length, s.un h, List.take_length] at this
  exact this
theorem Sim.nodup {T : TM} {M : RM} (s : Sim T M) (h : T.over = false) : (T.put.map (·.1)).Nodup := by
  have := s.nd h M.row.length (Nat.le_refl _)
  rw [← s.un h, List.drop_length] at this
  exact this
theorem Sim.read {T : TM} {M : RM} (s : Sim T M) (i : Int) : M.read i = T.read i := by
  unfold RM.read TM.read
  rw [s.ends, s.N]
  split
  · rfl
  · rename_i h
    have hl : T.over = false := by cases e : T.over <;> simp_all
    split
    · rfl
    · rename_i h2
      rw [← s.now hl i]
      cases e : aget T.put i with
      | some b => rw [TM.get_some e]
      | none =>
        rw [TM.get_none e, s.out]; simp only
        cases hd : T.disk.down with
        | true => rfl
        | false => rw [s.base hd _ (by omega)]
theorem Sim.readLen {T : TM} {M : RM} (s : Sim T M) {i : Int} (e : (T.read i).2 = 0) : (T.read i).1.length = 512 := by
  rw [← s.read i] at e ⊢
  unfold RM.read at e ⊢
  split at e
  · cases e
  · rename_i h1
    rw [if_neg h1]
    split at e
    · cases e
    · rename_i h2
      rw [if_neg h2]
      cases eg : lget M.row i with
      | some b => exact (s.rr _ (lget_mem rfl eg)).2.2
      | none =>
        rw [eg] at e
        simp only at e ⊢
        split at e
        · cases e
        · rename_i h3
          rw [if_neg h3, List.length_take, List.length_drop]
          have := s.n
          have hN := s.N
          omega
theorem aget_key {α : Type} {i : Int} {m : List (Int × α)} : i ∈ m.map (·.1) ↔ (aget m i).isSome = true := by
  constructor
  · intro h
    cases e : aget m i with
    | some b => rfl
    | none =>
      obtain ⟨p, hp, ep⟩ := List.mem_map.mp h
      exact absurd ep (aget_none.mp e p hp)
  · intro h
    cases e : aget m i with
    | some b => exact List.mem_map.mpr ⟨_, aget_mem e, rfl⟩
    | none => rw [e] at h; cases h
theorem Sim.written {T : TM} {M : RM} (s : Sim T M) : T.written = M.written := by
  unfold TM.written RM.written
  rw [s.ends]
  cases hl : T.over with
  | true => rw [(s.gone hl).1, if_pos rfl]; exact List.mergeSort_nil
  | false =>
    rw [if_neg (by simp)]
    refine sortZ_eq (s.nodup hl) (keysTo_lt _ _) fun x => ?_
    rw [mem_keysTo, aget_key, s.now hl, s.N]
    constructor
    · intro h
      cases e : lget M.row x with
      | none => rw [e] at h; cases h
      | some b =>
        have := s.rr _ (lget_mem rfl e)
        simp only at this
        exact ⟨this.1, by omega, rfl⟩
    · exact fun h => h.2.2
theorem sortZ_length (l : List Int) : (sortZ l).length = l.length := (List.mergeSort_perm l _).length_eq
theorem Sim.many {T : TM} {M : RM} (s : Sim T M) : M.written.length = T.put.length := by rw [← s.written]; unfold TM.written; rw [sortZ_length, List.length_map]
def RM.write (M : RM) (i : Int) (bs : Txt) : RM × Int :=
  if M.ends = true then (M, 61) else if i < 98 ∨ i ≥ M.N then (M, 31) else if bs.length ≠ 512 then (M, 32) else if lget M.row i = none ∧ M.written.length ≥ 96 then (M, 60) else ({ M with row := M.row ++ [(i, bs)] }, 0)
theorem undo1_aput (m : List (Int × Txt)) (i : Int) (v : Txt) : undo1 (aput m i v) (i, aget m i) = m := by
  unfold undo1
  cases e : aget m i with
  | some b => exact aput_aput e
  | none => exact adel_aput e
theorem undoAll_app (m : List (Int × Txt)) (us vs : List (Int × Option Txt)) : undoAll m (us ++ vs) = undoAll (undoAll m vs) us := by unfold undoAll; rw [List.foldr_append]
theorem aput_nodup {α : Type} {m : List (Int × α)} (h : (m.map (·.1)).Nodup) (i : Int) (v : α) : ((aput m i v).map (·.1)).Nodup := by
  rw [aput_keys]
  split
  · rename_i e
    rw [List.nodup_append]
    refine ⟨h, by simp, fun a ha b hb => ?_⟩
    rw [List.mem_singleton] at hb
    subst hb
    obtain ⟨p, hp, rfl⟩ := List.mem_map.mp ha
    exact aget_none.mp e p hp
  · exact h
theorem Sim.write {T : TM} {M : RM} (s : Sim T M) (i : Int) (bs : Txt) : (M.write i bs).2 = (T.write i bs).2 ∧ Sim (T.write i bs).1 (M.write i bs).1 := by
  unfold RM.write TM.write
  rw [s.ends, s.N, s.many]
  split
  · exact ⟨rfl, s⟩
  · rename_i h
    have hl : T.over = false := by cases e : T.over <;> simp_all
    rw [← s.now hl i]
    split
    · exact ⟨rfl, s⟩
    · split
      · exact ⟨rfl, s⟩
      · split
        · exact ⟨rfl, s⟩
        · rename_i h2 h3 h4
          refine ⟨rfl, rfl, s.n, s.out, s.base, fun y => absurd (hl.symm.trans y) (by simp), fun _ => ?_, fun _ k hk => ?_, fun _ k hk j => ?_, fun p hp => ?_⟩
          · show (T.undo ++ [_]).length = (M.row ++ [_]).length
            rw [List.length_append, List.length_append, s.un hl]; rfl
          · have hk : k ≤ (M.row ++ [(i, bs)]).length := hk
            rw [List.length_append, List.length_singleton] at hk
            show ((undoAll (aput T.put i bs) ((T.undo ++ [(i, aget T.put i)]).drop k)).map _).Nodup
            rcases Nat.lt_or_ge M.row.length k with y | y
            · rw [List.drop_eq_nil_of_le (by rw [List.length_append, s.un hl]; show _ + 1 ≤ k; omega)]
              exact aput_nodup (s.nodup hl) i bs
            · rw [List.drop_append_of_le_length (by rw [s.un hl]; exact y), undoAll_app]
              show ((undoAll (undo1 (aput T.put i bs) (i, aget T.put i)) _).map _).Nodup
              rw [undo1_aput]
              exact s.nd hl k y
          · have hk : k ≤ (M.row ++ [(i, bs)]).length := hk
            rw [List.length_append, List.length_singleton] at hk
            show aget (undoAll (aput T.put i bs) ((T.undo ++ [(i, aget T.put i)]).drop k)) j = lget ((M.row ++ [(i, bs)]).take k) j
            rcases Nat.lt_or_ge M.row.length k with y | y
            · rw [List.drop_eq_nil_of_le (by rw [List.length_append, s.un hl]; show _ + 1 ≤ k; omega), List.take_of_length_le (by rw [List.length_append]; show _ + 1 ≤ k; omega), lget_snoc]
              show aget (aput T.put i bs) j = _
              rw [aget_aput, s.now hl j]
              by_cases e : j = i
              · rw [if_pos e, if_pos (show (i, bs).1 = j from e.symm)]
              · rw [if_neg e, if_neg (show ¬ (i, bs).1 = j from fun y => e y.symm)]
            · rw [List.drop_append_of_le_length (by rw [s.un hl]; exact y), undoAll_app, List.take_append_of_le_length y]
              show aget (undoAll (undo1 (aput T.put i bs) (i, aget T.put i)) _) j = _
              rw [undo1_aput]
              exact s.get hl k y j
          · have hp : p ∈ M.row ++ [(i, bs)] := hp
            rcases List.mem_append.mp hp with y | y
            · exact s.rr p y
            · rw [List.mem_singleton.mp y]; show 98 ≤ i ∧ i < (T.N : Int) ∧ bs.length = 512; omega
def RM.back (M : RM) (m : Int) : RM × Int := if M.ends = true then (M, 61) else if m < 0 ∨ m > M.row.length then (M, 62) else ({ M with row := M.row.take m.toNat }, 0)
theorem Sim.back {T : TM} {M : RM} (s : Sim T M) (m : Int) : (M.back m).2 = (T.back m).2 ∧ Sim (T.back m).1 (M.back m).1 := by
  unfold RM.back TM.back
  rw [s.ends]
  split
  · exact ⟨rfl, s⟩
  · rename_i h
    have hl : T.over = false := by cases e : T.over <;> simp_all
    rw [s.un hl]
    split
    · exact ⟨rfl, s⟩
    · rename_i h2
      have hm : m.toNat ≤ M.row.length := by omega
      have key : ∀ k, k ≤ m.toNat → undoAll (undoAll T.put (T.undo.drop m.toNat)) ((T.undo.take m.toNat).drop k) = undoAll T.put (T.undo.drop k) := fun k hk => by
        have e : T.undo.drop k = (T.undo.take m.toNat).drop k ++ T.undo.drop m.toNat := by
          have e1 : T.undo = T.undo.take m.toNat ++ T.undo.drop m.toNat := (List.take_append_drop _ _).symm
          rw (config := { occs := .pos [1] }) [e1]
          rw [List.drop_append_of_le_length (by rw [List.length_take, s.un hl]; omega)]
        rw [e, undoAll_app]
      have lt : (M.row.take m.toNat).length = m.toNat := by rw [List.length_take]; omega
      refine ⟨rfl, rfl, s.n, s.out, s.base, fun y => absurd (hl.symm.trans y) (by simp), fun _ => ?_, fun _ k hk => ?_, fun _ k hk j => ?_, fun p hp => s.rr p (List.mem_of_mem_take hp)⟩
      · show (T.undo.take m.toNat).length = (M.row.take m.toNat).length
        rw [lt, List.length_take, s.un hl]; omega
      · have hk : k ≤ (M.row.take m.toNat).length := hk
        rw [lt] at hk
        show ((undoAll (undoAll T.put (T.undo.drop m.toNat)) ((T.undo.take m.toNat).drop k)).map _).Nodup
        rw [key k hk]; exact s.nd hl k (by omega)
      · have hk : k ≤ (M.row.take m.toNat).length := hk
        rw [lt] at hk
        show aget (undoAll (undoAll T.put (T.undo.drop m.toNat)) ((T.undo.take m.toNat).drop k)) j = lget ((M.row.take m.toNat).take k) j
        rw [key k hk, s.get hl k (by omega) j, List.take_take, Nat.min_eq_left hk]
theorem Sim.mark {T : TM} {M : RM} (s : Sim T M) : (if M.ends = true then ((0 : Int), (61 : Int)) else ((M.row.length : Int), 0)) = T.mark := by
  unfold TM.mark
  rw [s.ends]
  split
  · rfl
  · rename_i h
    have hl : T.over = false := by cases e : T.over <;> simp_all
    rw [s.un hl]
end Go.Proofs.YtcdpakjhjmchhaaGreatDoor.Rx
