/-
  TRANSACTIONS: a row of puts, plainly.
-/
import Derived.Test.YtpleolmalbdpnaaDoorTcP
namespace Go.Proofs.YtpleolmalbdpnaaDoor.Txl
open Go Go.Proofs Go.Proofs.YtpleolmalbdpnaaDoor.Wx Go.Proofs.YtpleolmalbdpnaaDoor.Hp Go.Proofs.YtpleolmalbdpnaaDoor.W Go.Proofs.YtpleolmalbdpnaaDoor.Ad Go.Proofs.YtpleolmalbdpnaaDoor.Tm Go.Proofs.YtpleolmalbdpnaaDoor.Spc

def modI (v n : Int) : Int := if Int.tmod v n < 0 then Int.tmod v n + n else Int.tmod v n
theorem modI_range {v n : Int} (h : 0 < n) : 0 ≤ modI v n ∧ modI v n < n := by
  unfold modI
  have h1 := Int.tmod_lt_of_pos v h
  have h2 : -n < Int.tmod v n := by
    have h3 := Int.tmod_lt_of_pos (-v) h
    rw [Int.neg_tmod] at h3; omega
  split <;> omega
abbrev Pt := Int × UInt8
def place (p : Pt) : Int := 98 + modI p.1 20
theorem place_range (p : Pt) : 98 ≤ place p ∧ place p < 118 := by
  have := modI_range (v := p.1) (n := 20) (by decide)
  unfold place; omega
def blk1 (x : UInt8) : Txt := List.replicate 512 x
theorem blk1_length (x : UInt8) : (blk1 x).length = 512 := List.length_replicate
def put1 (T : TM) (p : Pt) : TM := { T with put := aput T.put (place p) (blk1 p.2), undo := T.undo ++ [(place p, aget T.put (place p))] }
def fillT (T : TM) (ps : List Pt) : TM := (ps.take 60).foldl put1 T
def fillN (l : List UInt8) (ps : List Pt) : List UInt8 := (ps.take 60).foldl (fun l p => l.set (place p).toNat p.2) l
def fillI (l : List Bool) (ps : List Pt) : List Bool := (ps.take 60).foldl (fun l p => l.set (place p).toNat true) l
/-- what is known of a transaction: full of what its blocks are, which are put, how many puts it knows -/
structure Kx (m : Nat) (now : List UInt8) (is : List Bool) (T : TM) : Prop where
  live : T.over = false
  N : T.N = 118
  nl : now.length = 118
  il : is.length = 118
  ok : ∀ k : Nat, k < 118 → (T.read k).2 = 0
  data : ∀ k : Nat, 98 ≤ k → k < 118 → (T.read k).1 = blk1 (now.getD k 0)
  keys : (T.put.map (·.1)).Nodup
  isk : ∀ k : Nat, 98 ≤ k → k < 118 → (is.getD k false = true ↔ (k : Int) ∈ T.put.map (·.1))
  rng : ∀ x ∈ T.put.map (·.1), 98 ≤ x ∧ x < 118
  len : ∀ p ∈ T.put, p.2.length = 512
  undo : T.undo.length = m
theorem Kx.room {m : Nat} {now : List UInt8} {is : List Bool} {T : TM} (a : Kx m now is T) : T.put.length ≤ 20 := by
  have := nodup_len (m := (List.range 20).map fun k => ((98 + k : Nat) : Int)) a.keys fun x hx => by
    have := a.rng x hx
    exact List.mem_map.mpr ⟨(x - 98).toNat, List.mem_range.mpr (by omega), by omega⟩
  rw [List.length_map, List.length_map, List.length_range] at this
  exact this
theorem getD_set' {α : Type} (l : List α) (i j : Nat) (b d : α) (h : i < l.length) : (l.set i b).getD j d = if j = i then b else l.getD j d := by
  rw [List.getD_eq_getElem?_getD, List.getD_eq_getElem?_getD]
  by_cases e : j = i
  · rw [if_pos e, e, List.getElem?_set_self h]; rfl
  · rw [if_neg e, List.getElem?_set_ne (fun x => e x.symm)]
theorem Kx.put1 {m : Nat} {now : List UInt8} {is : List Bool} {T : TM} (a : Kx m now is T) (p : Pt) :
    T.write (place p) (blk1 p.2) = (Txl.put1 T p, 0) ∧ Kx (m + 1) (now.set (place p).toNat p.2) (is.set (place p).toNat true) (Txl.put1 T p) := by
  have hp := place_range p
  have hr := a.room
  have e : T.write (place p) (blk1 p.2) = (Txl.put1 T p, 0) := TM.write_get a.live hp.1 (by rw [a.N]; exact hp.2) (blk1_length _) (by rintro ⟨_, h⟩; omega)
  have e2 : (T.write (place p) (blk1 p.2)).2 = 0 := by rw [e]
  have rw_ := TM.read_write e2
  rw [e] at rw_
  have ek : (Txl.put1 T p).put.map (·.1) = if aget T.put (place p) = none then T.put.map (·.1) ++ [place p] else T.put.map (·.1) := aput_keys ..
  have hmem : ∀ x : Int, x ∈ (Txl.put1 T p).put.map (·.1) ↔ x = place p ∨ x ∈ T.put.map (·.1) := fun x => by
    rw [ek]
    split
    · rw [List.mem_append, List.mem_singleton]; exact ⟨fun h => h.symm, fun h => h.symm⟩
    · rename_i hno
      refine ⟨fun h => .inr h, fun h => ?_⟩
      rcases h with rfl | h
      · cases eg : aget T.put (place p) with
        | none => exact absurd eg hno
        | some b => exact List.mem_map.mpr ⟨_, aget_mem eg, rfl⟩
      · exact h
  refine ⟨e, a.live, a.N, by rw [List.length_set]; exact a.nl, by rw [List.length_set]; exact a.il, fun k hk => ?_, fun k h1 h2 => ?_, ?_, fun k h1 h2 => ?_, fun x hx => ?_, fun q hq => ?_, ?_⟩
  · rw [rw_]; split
    · rfl
    · exact a.ok k hk
  · rw [rw_, getD_set' _ _ _ _ _ (by rw [a.nl]; omega)]
    by_cases h : (k : Int) = place p
    · rw [if_pos h, if_pos (by omega)]
    · rw [if_neg h, if_neg (by omega)]; exact a.data k h1 h2
  · rw [ek]
    split
    · rename_i hno
      rw [List.nodup_append]
      refine ⟨a.keys, by simp, fun x hx y hy e => ?_⟩
      rw [List.mem_singleton.mp hy] at e
      subst e
      obtain ⟨q, hq, e⟩ := List.mem_map.mp hx
      exact aget_none.mp hno q hq e
    · exact a.keys
  · rw [hmem, getD_set' _ _ _ _ _ (by rw [a.il]; omega)]
    by_cases h : k = (place p).toNat
    · rw [if_pos h]; exact ⟨fun _ => .inl (by omega), fun _ => rfl⟩
    · rw [if_neg h, a.isk k h1 h2]
      exact ⟨fun x => .inr x, fun x => x.resolve_left (by omega)⟩
  · rcases (hmem x).mp hx with rfl | hx
    · exact hp
    · exact a.rng x hx
  · rcases aput_mem hq with rfl | hq
    · exact blk1_length _
    · exact a.len q hq
  · show (T.undo ++ [_]).length = _
    rw [List.length_append, List.length_singleton, a.undo]
theorem Kx.fold {now : List UInt8} {is : List Bool} : ∀ (ps : List Pt) {m : Nat} {now : List UInt8} {is : List Bool} {T : TM}, Kx m now is T →
    Kx (m + ps.length) (ps.foldl (fun l p => l.set (place p).toNat p.2) now) (ps.foldl (fun l p => l.set (place p).toNat true) is) (ps.foldl Txl.put1 T)
  | [], _, _, _, _, a => a
  | p :: r, m, _, _, _, a => by
    have := Kx.fold (now := now) (is := is) r (a.put1 p).2
    rw [List.length_cons, show m + (r.length + 1) = m + 1 + r.length by omega]
    exact this
/-- gone back behind all of it: as it was -/
theorem undoAll_app (m : List (Int × Txt)) (us vs : List (Int × Option Txt)) : undoAll m (us ++ vs) = undoAll (undoAll m vs) us := by unfold undoAll; rw [List.foldr_append]
theorem undo_put1 (T : TM) (p : Pt) : undo1 (put1 T p).put (place p, aget T.put (place p)) = T.put := by
  unfold undo1 put1
  cases e : aget T.put (place p) with
  | none => exact adel_aput e
  | some b => exact aput_aput e
theorem fold_undo : ∀ (ps : List Pt) (T : TM), ∃ us, (ps.foldl put1 T).undo = T.undo ++ us ∧ us.length = ps.length ∧ undoAll (ps.foldl put1 T).put us = T.put ∧ (ps.foldl put1 T).disk = T.disk ∧ (ps.foldl put1 T).over = T.over
  | [], T => ⟨[], (List.append_nil _).symm, rfl, rfl, rfl, rfl⟩
  | p :: r, T => by
    obtain ⟨us, e1, e2, e3, e4, e5⟩ := fold_undo r (put1 T p)
    refine ⟨(place p, aget T.put (place p)) :: us, ?_, by rw [List.length_cons, List.length_cons, e2], ?_, e4, e5⟩
    · show (r.foldl put1 (put1 T p)).undo = _
      rw [e1]
      show (T.undo ++ [_]) ++ us = _
      rw [List.append_assoc]; rfl
    · show undo1 (undoAll (r.foldl put1 (put1 T p)).put us) _ = _
      rw [e3]; exact undo_put1 T p
theorem back_fill (T : TM) (ps : List Pt) (h : T.over = false) : (fillT T ps).back T.undo.length = (T, 0) := by
  obtain ⟨us, e1, e2, e3, e4, e5⟩ := fold_undo (ps.take 60) T
  have e5' : (fillT T ps).over = false := e5.trans h
  have e1' : (fillT T ps).undo = T.undo ++ us := e1
  unfold TM.back
  rw [e5', if_neg (by simp), e1', if_neg (by rw [List.length_append]; omega), show ((T.undo.length : Int)).toNat = T.undo.length from rfl, List.drop_left, List.take_left]
  have e3' : undoAll (fillT T ps).put us = T.put := e3
  have e4' : (fillT T ps).disk = T.disk := e4
  rw [e3', e4']
  show ((⟨T.disk, T.put, T.undo, false⟩ : TM), (0 : Int)) = (T, 0)
  rw [← h]
theorem Kx.fill {m : Nat} {now : List UInt8} {is : List Bool} {T : TM} (a : Kx m now is T) (ps : List Pt) : Kx (m + min 60 ps.length) (fillN now ps) (fillI is ps) (fillT T ps) := by
  have := Kx.fold (now := now) (is := is) (ps.take 60) a
  rw [List.length_take] at this
  exact this
theorem fill_disk (T : TM) (ps : List Pt) : (fillT T ps).disk = T.disk := by
  obtain ⟨us, e1, e2, e3, e4, e5⟩ := fold_undo (ps.take 60) T
  exact e4
/-! the numbers of what is put -/
def lsI (is : List Bool) (n : Nat) : List Int := ((List.range n).filter fun k => decide (98 ≤ k) && is.getD k false).map fun k : Nat => (k : Int)
theorem lsI_succ (is : List Bool) (n : Nat) : lsI is (n + 1) = lsI is n ++ (if 98 ≤ n ∧ is.getD n false = true then [(n : Int)] else []) := by
  unfold lsI
  rw [List.range_succ, List.filter_append, List.map_append]
  congr 1
  by_cases h : 98 ≤ n ∧ is.getD n false = true
  · rw [if_pos h, List.filter_cons, h.2, decide_eq_true h.1]; rfl
  · rw [if_neg h, List.filter_cons, if_neg]
    · rfl
    · intro x
      rw [Bool.and_eq_true] at x
      exact h ⟨of_decide_eq_true x.1, x.2⟩
theorem lsI_98 (is : List Bool) : lsI is 98 = [] := by
  unfold lsI
  rw [List.map_eq_nil_iff, List.filter_eq_nil_iff]
  intro k hk
  have := List.mem_range.mp hk
  rw [decide_eq_false (by omega)]; simp
theorem lsI_mem (is : List Bool) (n : Nat) (x : Int) : x ∈ lsI is n ↔ ∃ k : Nat, x = k ∧ 98 ≤ k ∧ k < n ∧ is.getD k false = true := by
  unfold lsI
  rw [List.mem_map]
  refine ⟨fun ⟨k, hk, e⟩ => ?_, fun ⟨k, e, h1, h2, h3⟩ => ⟨k, List.mem_filter.mpr ⟨List.mem_range.mpr h2, by rw [h3, decide_eq_true h1]; rfl⟩, e.symm⟩⟩
  obtain ⟨h1, h2⟩ := List.mem_filter.mp hk
  rw [Bool.and_eq_true] at h2
  exact ⟨k, e.symm, of_decide_eq_true h2.1, List.mem_range.mp h1, h2.2⟩
theorem lsI_lt (is : List Bool) (n : Nat) : (lsI is n).Pairwise (· < ·) := by
  unfold lsI
  rw [List.pairwise_map]
  exact (List.pairwise_lt_range.sublist List.filter_sublist).imp fun h => by omega
theorem Kx.written {m : Nat} {now : List UInt8} {is : List Bool} {T : TM} (a : Kx m now is T) : T.written = lsI is 118 := by
  refine sortZ_eq a.keys (lsI_lt is 118) fun x => ?_
  rw [lsI_mem]
  refine ⟨fun h => ?_, fun ⟨k, e, h1, h2, h3⟩ => by rw [e]; exact (a.isk k h1 h2).mp h3⟩
  have hr := a.rng x h
  refine ⟨x.toNat, by omega, by omega, by omega, (a.isk _ (by omega) (by omega)).mpr ?_⟩
  rw [Int.toNat_of_nonneg (by omega)]; exact h
theorem Kx.putLen {m : Nat} {now : List UInt8} {is : List Bool} {T : TM} (a : Kx m now is T) : T.put.length = (lsI is 118).length := by
  rw [← a.written]
  unfold TM.written
  rw [(sortZ_perm _).length_eq, List.length_map]
/-- a disk on which no step was done -/
structure New (S : RD) : Prop where
  q : Wc.Quiet S
  keep : S.keep = []
  pend : S.pend = []
  w : S.writes = 0
  f : S.flushes = 0
  tape : S.tape = []
theorem Kx.good {m : Nat} {now : List UInt8} {is : List Bool} {T : TM} (a : Kx m now is T) (d : New T.disk) : Tm.Good T :=
  ⟨a.live, a.keys, fun p hp => by have := a.rng p.1 (List.mem_map.mpr ⟨p, hp, rfl⟩); rw [a.N]; exact this, a.len, by have := a.room; omega, d.q, d.pend, by rw [a.N]; omega, by rw [d.w]; omega, by rw [d.f]; omega⟩
/-! the disk of n blocks, block i full of i -/
def byteI (i : Nat) : UInt8 := if 0 < i ∧ i < 98 then 0 else UInt8.ofNat i
def freshL (n : Nat) : List Txt := (List.range n).map fun i => blk1 (byteI i)
theorem freshL_length (n : Nat) : (freshL n).length = n := by unfold freshL; rw [List.length_map, List.length_range]
theorem freshL_get {n i : Nat} (h : i < n) : (freshL n)[i]? = some (blk1 (byteI i)) := by
  unfold freshL; rw [List.getElem?_map, List.getElem?_range h]; rfl
theorem freshL_len (n : Nat) : ∀ x ∈ freshL n, x.length = 512 := fun x hx => by
  obtain ⟨i, _, rfl⟩ := List.mem_map.mp hx
  exact blk1_length _
theorem flatten_len : ∀ (ls : List Txt), (∀ x ∈ ls, x.length = 512) → ls.flatten.length = ls.length * 512
  | [], _ => rfl
  | a :: r, h => by
    rw [List.flatten_cons, List.length_append, h a (List.mem_cons_self ..), flatten_len r fun x hx => h x (List.mem_cons_of_mem _ hx), List.length_cons]; omega
theorem chunks_flatten {ls : List Txt} (h : ∀ x ∈ ls, x.length = 512) : chunks ls.flatten = ls := by
  have hl := flatten_len ls h
  have hc : (chunks ls.flatten).length = ls.length := by rw [chunks_length, hl]; omega
  apply List.ext_getElem hc
  intro i h1 h2
  rw [chunks_get]
  clear h1 hc hl
  induction ls generalizing i with
  | nil => cases h2
  | cons a r ih =>
    have ha := h a (List.mem_cons_self ..)
    cases i with
    | zero =>
      rw [Nat.zero_mul, List.drop_zero, List.flatten_cons, List.getElem_cons_zero, List.take_append_of_le_length (by omega), List.take_of_length_le (by omega)]
    | succ i =>
      rw [List.flatten_cons, List.getElem_cons_succ, show (i + 1) * 512 = a.length + i * 512 by omega, List.drop_append]
      rw [List.drop_of_length_le (by omega), List.nil_append, show a.length + i * 512 - a.length = i * 512 by omega]
      exact ih (fun x hx => h x (List.mem_cons_of_mem _ hx)) i (by rw [List.length_cons] at h2; omega)
theorem fresh_new (n : Nat) : New (fresh (freshL n)) := ⟨⟨rfl, rfl⟩, rfl, rfl, rfl, rfl, rfl⟩
def begun (n : Nat) : TM := ⟨fresh (freshL n), [], [], false⟩
theorem begun_read {n : Nat} {k : Nat} (h : k < n) : (begun n).read k = (blk1 (byteI k), 0) := by
  have hN : (begun n).N = n := freshL_length n
  rw [TM.read_live rfl, hN, if_neg (by omega), TM.get_none rfl, if_neg (by intro x; cases x)]
  have : readAt (begun n).disk ((k : Nat) : Int).toNat = blk1 (byteI k) := by
    show (freshL n).getD k [] = _
    rw [List.getD_eq_getElem?_getD, freshL_get h]; rfl
  rw [this]
def now0 (n : Nat) : List UInt8 := (List.range n).map fun i => if i < 98 then 0 else UInt8.ofNat i
theorem now0_get {n k : Nat} (h : k < n) (h2 : 98 ≤ k) : (now0 n).getD k 0 = byteI k := by
  unfold now0 byteI
  rw [List.getD_eq_getElem?_getD, List.getElem?_map, List.getElem?_range h, if_neg (by omega)]
  show (if k < 98 then (0 : UInt8) else UInt8.ofNat k) = _
  rw [if_neg (by omega)]
theorem Kx.start : Kx 0 (now0 118) (List.replicate 118 false) (begun 118) := by
  refine ⟨rfl, freshL_length 118, by unfold now0; rw [List.length_map, List.length_range], List.length_replicate, fun k hk => by rw [begun_read hk], fun k h1 h2 => ?_, List.nodup_nil, fun k h1 h2 => ?_, fun x hx => (by cases hx), fun p hp => (by cases hp), rfl⟩
  · rw [begun_read h2, now0_get h2 h1]
  · have e : (List.replicate 118 false).getD k false = false := by
      rw [List.getD_eq_getElem?_getD, List.getElem?_replicate]; split <;> rfl
    rw [e]; exact ⟨fun x => (by cases x), fun x => (by cases x)⟩
end Go.Proofs.YtpleolmalbdpnaaDoor.Txl
