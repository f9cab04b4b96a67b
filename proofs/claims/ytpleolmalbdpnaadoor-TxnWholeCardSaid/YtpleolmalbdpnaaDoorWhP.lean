/-
  RECOVERY, plainly.
-/
import Derived.Test.YtpleolmalbdpnaaDoorWvB
namespace Go.Proofs.YtpleolmalbdpnaaDoor.Wc
open Go Go.Proofs Go.Proofs.YtpleolmalbdpnaaDoor.Wx Go.Proofs.YtpleolmalbdpnaaDoor.Hp Go.Proofs.YtpleolmalbdpnaaDoor.W Go.Proofs.YtpleolmalbdpnaaDoor.Ad

def Stp.ent : Stp → Int × Int × List UInt8
  | .w i b => (1, i, b)
  | .f => (2, 0, [])
theorem step_quiet {S : RD} {f : RD → RD} (hl : S.left = 0) : S.step f = (f S, 0) := by
  unfold RD.step; rw [hl, if_neg (by omega)]
theorem on_quiet {S : RD} (q : Quiet S) (s : Stp) (h : (s.on S).2 = 0) : (s.on S).1.tape = S.tape ++ [s.ent] ∧ Quiet (s.on S).1 := by
  cases s with
  | w i b =>
    have h : (S.write i b).2 = 0 := h
    show (S.write i b).1.tape = _ ∧ Quiet (S.write i b).1
    unfold RD.write at h ⊢
    rw [q.down, if_neg (by simp)] at h ⊢
    split at h
    · have h : (31 : Int) = 0 := h; exact absurd h (by decide)
    · rename_i h1
      rw [if_neg h1]
      split at h
      · have h : (32 : Int) = 0 := h; exact absurd h (by decide)
      · rename_i h2
        rw [if_neg h2, step_quiet (S := S.putW i b) q.left]
        exact ⟨rfl, ⟨q.down, q.left⟩⟩
  | f =>
    show S.flush.1.tape = _ ∧ Quiet S.flush.1
    rw [flush_quiet q]
    exact ⟨rfl, ⟨q.down, q.left⟩⟩
theorem run_tape : ∀ (xs : List Stp) (S S' : RD), Quiet S → runS xs S = (S', 0) → S'.tape = S.tape ++ xs.map Stp.ent
  | [], S, S', _, h => by
    have h : S = S' := congrArg Prod.fst h
    rw [← h]; simp
  | s :: r, S, S', q, h => by
    have h : (if (s.on S).2 = 0 then runS r (s.on S).1 else s.on S) = (S', 0) := h
    split at h
    · rename_i h0
      obtain ⟨a, b⟩ := on_quiet q s h0
      rw [run_tape r _ S' b h, a, List.map_cons, List.append_assoc]; rfl
    · rename_i h0
      rw [h] at h0; exact absurd rfl h0
theorem nums_nil {hd : List UInt8} {n : Int} (h : (Hd.numsM hd n).2 = 0) (h1 : (Hd.numsM hd n).1 = []) : hd = Hd.zeros 512 := by
  have l5 := Hd.numsM_len h
  by_cases hz : Re.allZero hd = true
  · have := Hd.allZero_zeros hz
    rw [l5] at this; exact this
  · exfalso
    unfold Hd.numsM at h h1
    rw [if_neg (fun x => x l5), if_neg hz] at h h1
    split at h
    · cases h
    · rename_i c2
      rw [if_neg c2] at h1
      split at h
      · cases h
      · rename_i c3
        rw [if_neg c3] at h1
        split at h
        · cases h
        · rename_i c4
          rw [if_neg c4] at h1
          split at h
          · cases h
          · rename_i c5
            rw [if_neg c5] at h1
            split at h
            · cases h
            · rename_i c6
              rw [if_neg c6] at h1
              have h1 : Hd.numsL hd (Hd.getAt hd 8 2) = [] := h1
              rw [h1] at c6
              exact c6 rfl
theorem nums_zeros (n : Int) : Hd.numsM (Hd.zeros 512) n = ([], 0) := by
  unfold Hd.numsM
  rw [if_neg (fun x => x (Hd.zeros_length 512)), if_pos (Hd.zeros_allZero 512)]
/-- a disk on which nothing pends: what lasts is what is read -/
theorem seen_lasts {S : RD} (hp : S.pend = []) : seen S = S.lasts := by
  unfold seen
  apply List.ext_getElem
  · rw [List.length_map, List.length_range]
  · intro i h1 h2
    rw [List.getElem_map, List.getElem_range, read_quiet hp, List.getD_eq_getElem?_getD, List.getElem?_eq_getElem h2]; rfl
theorem held_err {S : RD} {e : Int} (h : (heldM S).2 = e) (he : e ≠ 0) : heldM S = ([], e) := by
  unfold heldM at h ⊢
  split
  · rename_i c; rw [if_pos c] at h; rw [← h]
  · rename_i c
    rw [if_neg c] at h
    split
    · rename_i c2; rw [if_pos c2] at h; rw [← h]
    · rename_i c2
      rw [if_neg c2] at h
      split
      · rename_i c3; rw [if_pos c3] at h; rw [← h]
      · rename_i c3
        rw [if_neg c3] at h
        split
        · rename_i c4; rw [if_pos c4] at h; exact absurd h.symm he
        · rename_i c4; rw [if_neg c4] at h; rw [← h]
/-- no other errors -/
theorem held_41 {S : RD} (hd : S.down = false) (hn : 98 ≤ S.lasts.length) (h : (heldM S).2 ≠ 0) : heldM S = ([], 41) := by
  refine held_err ?_ (by decide)
  unfold heldM at h ⊢
  rw [hd, if_neg (by simp), if_neg (by omega)] at h ⊢
  split
  · rfl
  · rename_i c3
    rw [if_neg c3] at h
    split
    · rename_i c4; rw [if_pos c4] at h; exact absurd rfl h
    · rfl
theorem held_len {S : RD} {l : Nb} (h : heldM S = (l, 0)) : l.length ≤ 96 := by
  obtain ⟨_, _, h3, h4, _⟩ := held_in h
  rw [h4, heldL_length]; exact numsM_lim h3
/-- an empty log: its head is zeros -/
theorem held_nil {S : RD} (h : heldM S = ([], 0)) : readAt S 1 = Hd.zeros 512 := by
  obtain ⟨_, _, h3, h4, _⟩ := held_in h
  refine nums_nil h3 (List.eq_nil_of_length_eq_zero ?_)
  have := congrArg List.length h4
  rw [heldL_length] at this
  exact this.symm
theorem set_same {ls : List (List UInt8)} {i : Nat} {y : List UInt8} (h : ls[i]? = some y) : ls.set i y = ls := by
  apply List.ext_getElem?
  intro j
  rw [List.getElem?_set]
  by_cases e : i = j
  · subst e
    have := (List.getElem?_eq_some_iff.mp h).1
    rw [if_pos rfl, if_pos this, h]
  · rw [if_neg e]
theorem beh_nil {S : RD} (hp : S.pend = []) (h : heldM S = ([], 0)) : behL S [] = S.lasts := by
  obtain ⟨_, h2, _⟩ := held_in h
  have e := held_nil h
  unfold behL
  rw [seen_lasts hp]
  show S.lasts.set ((1 : Int)).toNat (Hd.zeros 512) = S.lasts
  refine set_same ?_
  rw [read_quiet hp, List.getD_eq_getElem?_getD] at e
  show S.lasts[1]? = _
  rw [List.getElem?_eq_getElem (by omega)] at e ⊢
  have e : S.lasts[1] = Hd.zeros 512 := e
  rw [e]
theorem held_mem512 {S : RD} {l : Nb} (hq : ∀ i < S.lasts.length, (readAt S i).length = 512) (h : heldM S = (l, 0)) : ∀ p ∈ l, p.2.length = 512 := fun x hx => by
  obtain ⟨_, _, h3', h4, _⟩ := held_in h
  subst h4
  obtain ⟨k, hk, rfl⟩ := List.mem_map.mp hx
  have := numsM_lim h3'
  have hk := List.mem_range.mp hk
  unfold heldN at hk
  exact hq _ (by omega)
/-- a recovery that is not cut -/
theorem home_run {S : RD} {l : Nb} (q : Quiet S) (hp : S.pend = []) (hw : 0 ≤ S.writes ∧ S.writes ≤ 1000000) (hf : 0 ≤ S.flushes ∧ S.flushes ≤ 1000000) (hn : 98 ≤ S.lasts.length) (hin : InDisk S l) (hl : l.length ≤ 96) :
    ∃ S2, runS (homeS l) S = (S2, 0) ∧ Quiet S2 ∧ S2.lasts = applyTo (applyTo S.lasts l) [(1, Hd.zeros 512)] ∧ S2.pend = [] ∧ S2.writes = S.writes + l.length + 1 ∧ S2.flushes = S.flushes + 2 ∧ S2.tape = S.tape ++ (homeS l).map Stp.ent ∧ S2.keep = S.keep := by
  obtain ⟨S1, P1, e1⟩ := run_ph l S q hin hw.1 (by omega) hf.1 (by omega)
  have n1 := P1.n
  have w1 := P1.writes
  have f1 := P1.flushes
  obtain ⟨S2, P2, e2⟩ := run_ph [(1, Hd.zeros 512)] S1 P1.q (fun p hp => by rw [List.mem_singleton.mp hp]; exact ⟨by simp, by simp only; omega, Hd.zeros_length 512⟩) (by omega) (by rw [List.length_singleton]; omega) (by omega) (by omega)
  have ee : homeS l = ws l ++ Stp.f :: (ws [(1, Hd.zeros 512)] ++ Stp.f :: []) := by
    unfold homeS; rfl
  have er : runS (homeS l) S = (S2, 0) := by rw [ee, e1, e2]; rfl
  have w2 := P2.writes
  rw [List.length_singleton] at w2
  refine ⟨S2, er, P2.q, ?_, P2.pend, by omega, by rw [P2.flushes]; omega, run_tape _ _ _ q er, by rw [P2.keep, P1.keep]⟩
  rw [P2.lasts, P1.lasts, P1.pend, hp, List.nil_append, List.nil_append]
/-- an empty log, nothing pending -/
structure Clean (S : RD) : Prop where
  q : Quiet S
  pend : S.pend = []
  n : 98 ≤ S.lasts.length
  log : S.lasts[1]? = some (Hd.zeros 512)
theorem Clean.held {S : RD} (c : Clean S) : heldM S = ([], 0) := by
  have e1 : readAt S 1 = Hd.zeros 512 := by rw [read_quiet c.pend, List.getD_eq_getElem?_getD, c.log]; rfl
  have eN : heldN S = ([], 0) := by unfold heldN; rw [e1, nums_zeros]
  unfold heldM
  have := c.n
  rw [c.q.down, if_neg (by simp), if_neg (by omega), eN, if_neg (fun x => x rfl), if_pos (.inl rfl)]; rfl
theorem Clean.beh {S : RD} (c : Clean S) : behM S = (S.lasts.flatten, 0) := by
  unfold behM
  rw [c.held, if_neg (fun x => x rfl), beh_nil c.pend c.held]
theorem Clean.recM {S : RD} (c : Clean S) : Wc.recM S = (S, 0, 0) := by
  unfold Wc.recM
  rw [c.held, if_neg (fun x => x rfl), if_pos rfl]
end Go.Proofs.YtpleolmalbdpnaaDoor.Wc
