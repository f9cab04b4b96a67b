/-
  TRANSACTIONS: what one reads, and reads behind a write.
-/
import Derived.Test.YtcdpakjhjmchhaaGreatDoorTmC
namespace Go.Proofs.YtcdpakjhjmchhaaGreatDoor.Spc
open Go Go.Proofs Go.Proofs.YtcdpakjhjmchhaaGreatDoor.Wx Go.Proofs.YtcdpakjhjmchhaaGreatDoor.Hp Go.Proofs.YtcdpakjhjmchhaaGreatDoor.W Go.Proofs.YtcdpakjhjmchhaaGreatDoor.Ad Go.Proofs.YtcdpakjhjmchhaaGreatDoor.Tm

/-! what a transaction reads -/
theorem readFrom_len {i : Int} : ∀ (ps : List (Int × List UInt8)) (b : List UInt8), b.length = 512 → (∀ p ∈ ps, p.2.length = 512) → (readFrom b i ps).length = 512
  | [], b, h, _ => h
  | p :: r, b, h, hp => by
    show (readFrom (if p.1 = i then p.2 else b) i r).length = 512
    refine readFrom_len r _ ?_ fun q hq => hp q (List.mem_cons_of_mem _ hq)
    split
    · exact hp p (List.mem_cons_self ..)
    · exact h
theorem DiskF.readLen {h : Heap} {D : Nat → Prop} {d : Option Addr} {S : RD} (a : DiskF h D d S) {i : Nat} (hi : i < S.lasts.length) : (readAt S i).length = 512 := by
  obtain ⟨col, ⟨b, r, es, _, P⟩, _⟩ := a
  refine readFrom_len _ _ ?_ P.pw
  rw [List.getD_eq_getElem?_getD, List.getElem?_eq_getElem hi]
  exact P.lw _ (List.getElem_mem hi)
theorem Tx.putLen {h : Heap} {F : Nat → Prop} {t d : Option Addr} {T : TM} (x : Tx h F t d T) : ∀ p ∈ T.put, p.2.length = 512 := by
  rcases x with ⟨col, r, _, c, _⟩ | ⟨col, tb, _, c, _⟩
  · intro p hp
    rw [c.put] at hp
    obtain ⟨q, hq, rfl⟩ := List.mem_map.mp hp
    exact (c.pok q hq).l
  · intro p hp
    rw [c.gone.1] at hp; cases hp
theorem Tx.readLen {h : Heap} {F : Nat → Prop} {t d : Option Addr} {T : TM} (x : Tx h F t d T) {i : Int} (e : (T.read i).2 = 0) : (T.read i).1.length = 512 := by
  obtain ⟨D, dk, _⟩ := x.dk
  unfold TM.read at e ⊢
  split at e
  · cases e
  · rename_i h1
    rw [if_neg h1]
    split at e
    · cases e
    · rename_i h2
      rw [if_neg h2]
      cases eg : aget T.put i with
      | some b => rw [TM.get_some eg]; exact Tx.putLen x _ (aget_mem eg)
      | none =>
        rw [TM.get_none eg] at e ⊢
        split at e
        · cases e
        · rename_i h3
          rw [if_neg h3]
          exact DiskF.readLen dk (by have : T.N = T.disk.lasts.length := rfl; omega)
/-! what it reads behind a write -/
theorem TM.write_ok {T : TM} {i : Int} {bs : Txt} (e : (T.write i bs).2 = 0) : T.over = false ∧ 98 ≤ i ∧ i < T.N ∧ bs.length = 512 ∧ ¬ (aget T.put i = none ∧ T.put.length ≥ 96) ∧ (T.write i bs).1 = { T with put := aput T.put i bs, undo := T.undo ++ [(i, aget T.put i)] } := by
  unfold TM.write at e ⊢
  split at e
  · cases e
  · rename_i h1
    split at e
    · cases e
    · rename_i h2
      split at e
      · cases e
      · rename_i h3
        split at e
        · cases e
        · rename_i h4
          rw [if_neg h1, if_neg h2, if_neg h3, if_neg h4]
          exact ⟨by cases ho : T.over <;> simp_all, by omega, by omega, by omega, h4, rfl⟩
theorem TM.write_get {T : TM} {i : Int} {bs : Txt} (h1 : T.over = false) (h2 : 98 ≤ i) (h3 : i < T.N) (h4 : bs.length = 512) (h5 : ¬ (aget T.put i = none ∧ T.put.length ≥ 96)) :
    T.write i bs = ({ T with put := aput T.put i bs, undo := T.undo ++ [(i, aget T.put i)] }, 0) := by
  unfold TM.write
  rw [if_neg (by rw [h1]; simp), if_neg (by omega), if_neg (by omega), if_neg h5]
theorem TM.write_bad {T : TM} {i : Int} {bs : Txt} (e : (T.write i bs).2 ≠ 0) : (T.write i bs).1 = T := by
  unfold TM.write at e ⊢
  split
  · rfl
  · split
    · rfl
    · split
      · rfl
      · split
        · rfl
        · rename_i h1 h2 h3 h4
          rw [if_neg h1, if_neg h2, if_neg h3, if_neg h4] at e
          exact absurd rfl e
theorem TM.read_live {T : TM} (h : T.over = false) (i : Int) : T.read i = if i < 0 ∨ i ≥ T.N then ([], 31) else T.get i := by
  unfold TM.read
  rw [if_neg (by rw [h]; simp)]
theorem TM.read_write {T : TM} {i : Int} {bs : Txt} (e : (T.write i bs).2 = 0) (j : Int) : (T.write i bs).1.read j = if j = i then (bs, 0) else T.read j := by
  obtain ⟨h1, h2, h3, h4, h5, ew⟩ := TM.write_ok e
  rw [ew, TM.read_live (T := { T with put := aput T.put i bs, undo := T.undo ++ [(i, aget T.put i)] }) h1, TM.read_live h1]
  have hN : TM.N { T with put := aput T.put i bs, undo := T.undo ++ [(i, aget T.put i)] } = T.N := rfl
  rw [hN]
  have ea : aget (TM.put { T with put := aput T.put i bs, undo := T.undo ++ [(i, aget T.put i)] }) j = if j = i then some bs else aget T.put j := aget_aput ..
  by_cases hj : j = i
  · rw [if_pos hj] at ea ⊢
    rw [if_neg (by omega), TM.get_some ea]
  · rw [if_neg hj] at ea ⊢
    split
    · rfl
    · cases e2 : aget T.put j with
      | some b => rw [e2] at ea; rw [TM.get_some ea, TM.get_some e2]
      | none => rw [e2] at ea; rw [TM.get_none ea, TM.get_none e2]
/-- one more put, and gone back behind it: as it was -/
theorem TM.read_ok_over {T : TM} {i : Int} (e : (T.read i).2 = 0) : T.over = false := by
  unfold TM.read at e
  split at e
  · cases e
  · rename_i h; cases ho : T.over <;> simp_all
theorem nodup_len : ∀ {l m : List Int}, l.Nodup → (∀ x ∈ l, x ∈ m) → l.length ≤ m.length
  | [], m, _, _ => Nat.zero_le _
  | a :: r, m, hn, hs => by
    have ha := hs a (List.mem_cons_self ..)
    have h1 := List.length_erase_of_mem ha
    have h2 := List.length_pos_of_mem ha
    rw [List.nodup_cons] at hn
    have ih := nodup_len (l := r) (m := m.erase a) hn.2 fun x hx => (List.mem_erase_of_ne (fun e => hn.1 (by rw [← e]; exact hx))).mpr (hs x (List.mem_cons_of_mem _ hx))
    rw [List.length_cons]; omega
theorem aput_keys {α : Type} (i : Int) (v : α) : ∀ m : List (Int × α), (aput m i v).map (·.1) = if aget m i = none then m.map (·.1) ++ [i] else m.map (·.1)
  | [] => rfl
  | (k, u) :: r => by
    have ih := aput_keys i v r
    show (bif i == k then (i, v) :: r else (k, u) :: aput r i v).map (·.1) = if (bif i == k then some u else aget r i) = none then _ else _
    by_cases e : i = k
    · subst e; rw [beq_self_eq_true]; rfl
    · rw [beq_eq_false_iff_ne.mpr e]
      show k :: (aput r i v).map (·.1) = if aget r i = none then _ else _
      rw [ih]
      split <;> rfl
end Go.Proofs.YtcdpakjhjmchhaaGreatDoor.Spc
