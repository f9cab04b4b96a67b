/-
  A TRANSACTION'S COMMIT, plainly.
-/
import Derived.Test.YtpleolmalbdpnaaDoorTmD
import Derived.Test.YtpleolmalbdpnaaDoorWtA
import Derived.Test.YtpleolmalbdpnaaDoorWcB
namespace Go.Proofs.YtpleolmalbdpnaaDoor.Tm
open Go Go.Proofs Go.Proofs.YtpleolmalbdpnaaDoor.Wx Go.Proofs.YtpleolmalbdpnaaDoor.Hp Go.Proofs.YtpleolmalbdpnaaDoor.W Go.Proofs.YtpleolmalbdpnaaDoor.Ad Go.Proofs.YtpleolmalbdpnaaDoor.Spc

def TM.ended (S : RD) : TM := ⟨S, [], [], true⟩
def TM.blocks (T : TM) : Wc.Nb := T.written.map fun i => (i, (aget T.put i).getD [])
def TM.commit (T : TM) : TM × Int :=
  if T.over = true then (T, 61) else if T.put = [] then (TM.ended T.disk, 0) else (TM.ended (Wc.wal T.disk T.blocks).1, (Wc.wal T.disk T.blocks).2)
/-! sorted rows -/
theorem le_trans_b : ∀ a b c : Int, decide (a ≤ b) = true → decide (b ≤ c) = true → decide (a ≤ c) = true := fun a b c h1 h2 => decide_eq_true (Int.le_trans (of_decide_eq_true h1) (of_decide_eq_true h2))
theorem le_total_b : ∀ a b : Int, (decide (a ≤ b) || decide (b ≤ a)) = true := fun a b => by
  rcases Int.le_total a b with h | h
  · rw [decide_eq_true h]; rfl
  · rw [decide_eq_true h, Bool.or_true]
theorem sortZ_perm (l : List Int) : (sortZ l).Perm l := List.mergeSort_perm l _
theorem sortZ_lt {l : List Int} (h : l.Nodup) : (sortZ l).Pairwise (· < ·) := by
  have h1 : (sortZ l).Pairwise fun x y => decide (x ≤ y) = true := List.pairwise_mergeSort le_trans_b le_total_b l
  have h2 : (sortZ l).Nodup := (sortZ_perm l).nodup_iff.mpr h
  exact (h1.and h2).imp fun ⟨a, b⟩ => by have := of_decide_eq_true a; omega
theorem sortZ_eq {l m : List Int} (h : l.Nodup) (hm : m.Pairwise (· < ·)) (hs : ∀ x, x ∈ l ↔ x ∈ m) : sortZ l = m := by
  have hmn : m.Nodup := hm.imp fun h => by omega
  have hp : (sortZ l).Perm m := (sortZ_perm l).trans ((List.perm_ext_iff_of_nodup h hmn).mpr hs)
  exact List.Perm.eq_of_pairwise (le := (· < ·)) (fun a b _ _ h1 h2 => by omega) (sortZ_lt h) hm hp
theorem okGo_of {n : Int} : ∀ (l : List Int) (last : Int), l.Pairwise (· < ·) → (∀ x ∈ l, last < x ∧ x < n) → Hd.okGo n last l = true
  | [], _, _, _ => rfl
  | a :: r, last, hp, h => by
    rw [List.pairwise_cons] at hp
    have h1 := h a (List.mem_cons_self ..)
    show (!(decide (a ≤ last) || decide (a ≥ n)) && Hd.okGo n a r) = true
    rw [okGo_of r a hp.2 fun x hx => ⟨hp.1 x hx, (h x (List.mem_cons_of_mem _ hx)).2⟩, decide_eq_false (by omega), decide_eq_false (by omega)]; rfl
theorem aget_some {α : Type} {i : Int} {m : List (Int × α)} (h : i ∈ m.map (·.1)) : ∃ b, aget m i = some b := by
  cases e : aget m i with
  | some b => exact ⟨b, rfl⟩
  | none =>
    obtain ⟨p, hp, ep⟩ := List.mem_map.mp h
    exact absurd ep (aget_none.mp e p hp)
/-- a transaction that may be committed -/
structure Good (T : TM) : Prop where
  live : T.over = false
  keys : (T.put.map (·.1)).Nodup
  rng : ∀ p ∈ T.put, 98 ≤ p.1 ∧ p.1 < T.N
  len : ∀ p ∈ T.put, p.2.length = 512
  room : T.put.length ≤ 96
  q : Wc.Quiet T.disk
  pend : T.disk.pend = []
  n : 98 ≤ T.N
  w : 0 ≤ T.disk.writes ∧ T.disk.writes ≤ 100000000
  f : 0 ≤ T.disk.flushes ∧ T.disk.flushes ≤ 100000000
theorem Good.fst {T : TM} (g : Good T) : T.blocks.map (·.1) = T.written := by
  unfold TM.blocks; rw [List.map_map]
  exact List.map_id'' (fun _ => rfl) _
theorem Good.mem {T : TM} (g : Good T) {p : Int × List UInt8} (hp : p ∈ T.blocks) : aget T.put p.1 = some p.2 ∧ p ∈ T.put := by
  obtain ⟨i, hi, rfl⟩ := List.mem_map.mp hp
  have hi : i ∈ T.put.map (·.1) := (sortZ_perm _).mem_iff.mp hi
  obtain ⟨b, e⟩ := aget_some hi
  show aget T.put i = some ((aget T.put i).getD []) ∧ (i, (aget T.put i).getD []) ∈ T.put
  rw [e]
  exact ⟨rfl, aget_mem e⟩
theorem Good.blocksLen {T : TM} (g : Good T) : T.blocks.length = T.put.length := by
  unfold TM.blocks TM.written
  rw [List.length_map, (sortZ_perm _).length_eq, List.length_map]
/-- what a commit leaves -/
structure Kept (T : TM) (S : RD) : Prop where
  q : Wc.Quiet S
  keep : S.keep = T.disk.keep
  pend : S.pend = []
  n : S.lasts.length = T.N
  w : S.writes = T.disk.writes + 2 * T.put.length + 2
  f : S.flushes = T.disk.flushes + 4
  tape : S.tape.length = T.disk.tape.length + 2 * T.put.length + 6
  read : ∀ k : Nat, 98 ≤ k → k < T.N → readAt S k = (T.read k).1
theorem commit_good {T : TM} (g : Good T) (hp : T.put ≠ []) : ∃ S, T.commit = (TM.ended S, 0) ∧ Kept T S := by
  have hw : (T.written).Pairwise (· < ·) := sortZ_lt g.keys
  have hr : ∀ x ∈ T.written, 97 < x ∧ x < T.N := fun x hx => by
    have hx : x ∈ T.put.map (·.1) := (sortZ_perm _).mem_iff.mp hx
    obtain ⟨p, h1, rfl⟩ := List.mem_map.mp hx
    have := g.rng p h1; omega
  have hb : T.blocks ≠ [] := fun e => by
    have := g.blocksLen
    rw [e] at this
    cases hq : T.put with
    | nil => exact hp hq
    | cons a r => rw [hq] at this; cases this
  have hmay : Wc.mayW T.blocks (T.disk.lasts.length : Int) = true := by
    unfold Wc.mayW
    rw [g.fst, show (T.disk.lasts.length : Int) = (T.N : Int) from rfl, okGo_of T.written 97 hw hr, g.blocksLen, decide_eq_true (by have := g.room; omega)]; rfl
  have hall : (T.blocks.map (·.2)).all (fun d => d.length == 512) = true := List.all_eq_true.mpr fun d hd => by
    obtain ⟨p, h1, rfl⟩ := List.mem_map.mp hd
    exact beq_iff_eq.mpr (g.len p (g.mem h1).2)
  have hin : Wc.InDisk T.disk T.blocks := fun p h1 => by
    have h2 := (g.mem h1).2
    have := g.rng p h2
    exact ⟨by omega, this.2, g.len p h2⟩
  have hl : T.blocks.length ≤ 96 := by rw [g.blocksLen]; exact g.room
  have hn : (Wc.hdrOf T.blocks).length = 512 := Hd.laid_length _ _ (by rw [List.length_map]; omega)
  obtain ⟨S, d, e⟩ := Wc.run_commit T.blocks (Wc.hdrOf T.blocks) T.disk g.q hin hn g.n hl g.w.1 g.w.2 g.f.1 g.f.2
  have e2 : Wc.wal T.disk T.blocks = (S, 0) := by
    unfold Wc.wal
    rw [if_neg hb, hmay, if_neg (by simp), hall, if_neg (by simp), g.q.down, if_neg (by simp), e]
  have hge : ∀ x ∈ T.blocks, 98 ≤ x.1 := fun x hx => (g.rng x (g.mem hx).2).1
  refine ⟨S, ?_, d.q, d.keep, d.pend, d.n, by rw [d.writes, g.blocksLen], d.flushes, by rw [d.tape, g.blocksLen], fun k h1 h2 => ?_⟩
  · unfold TM.commit
    rw [g.live, if_neg (by simp), if_neg hp, e2]
  · have h2' : k < T.disk.lasts.length := h2
    rw [Wc.read_quiet d.pend, TM.read_live g.live, if_neg (by omega)]
    cases ek : aget T.put k with
    | some b =>
      rw [TM.get_some ek]
      have hm : ((k : Int), b) ∈ T.blocks := by
        refine List.mem_map.mpr ⟨k, (sortZ_perm _).mem_iff.mpr (List.mem_map.mpr ⟨_, aget_mem ek, rfl⟩), ?_⟩
        rw [ek]; rfl
      have := d.put hge h1 h2' hm fun c hc => by
        have := (g.mem hc).1
        rw [ek] at this; exact (Option.some.inj this).symm
      rw [List.getD_eq_getElem?_getD, this]; rfl
    | none =>
      rw [TM.get_none ek, g.q.down, if_neg (by simp)]
      have := d.get g.pend hl hge h1 fun x hx e => by
        have := (g.mem hx).1
        rw [e, ek] at this; cases this
      rw [List.getD_eq_getElem?_getD, this]
      show _ = readAt T.disk ((k : Int)).toNat
      rw [Wc.read_quiet g.pend, List.getD_eq_getElem?_getD]; rfl
end Go.Proofs.YtpleolmalbdpnaaDoor.Tm
