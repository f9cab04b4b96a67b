/-
  A COMMIT, plainly: steps of a disk, one behind the other, and what they leave.
-/
import Derived.Test.YtpleolmalbdpnaaDoorDkF
import Derived.Test.YtpleolmalbdpnaaDoorAdN
import Derived.Test.YtpleolmalbdpnaaDoorHdA
namespace Go.Proofs.YtpleolmalbdpnaaDoor.Wc
open Go Go.Proofs Go.Proofs.YtpleolmalbdpnaaDoor.Wx Go.Proofs.YtpleolmalbdpnaaDoor.Hp Go.Proofs.YtpleolmalbdpnaaDoor.W Go.Proofs.YtpleolmalbdpnaaDoor.Ad

inductive Stp where
  | w (i : Int) (b : List UInt8)
  | f
def Stp.on (S : RD) : Stp → RD × Int
  | .w i b => S.write i b
  | .f => S.flush
def runS : List Stp → RD → RD × Int
  | [], S => (S, 0)
  | s :: r, S => if (s.on S).2 = 0 then runS r (s.on S).1 else s.on S
theorem runS_app (a b : List Stp) : ∀ S : RD, runS (a ++ b) S = if (runS a S).2 = 0 then runS b (runS a S).1 else runS a S := by
  induction a with
  | nil => intro S; show runS b S = if (0 : Int) = 0 then _ else _; rw [if_pos rfl]; rfl
  | cons s r ih =>
    intro S
    show (if (s.on S).2 = 0 then runS (r ++ b) (s.on S).1 else s.on S) = _
    have e : runS (s :: r) S = if (s.on S).2 = 0 then runS r (s.on S).1 else s.on S := rfl
    rw [e]
    by_cases h : (s.on S).2 = 0
    · rw [if_pos h, if_pos h]; exact ih _
    · rw [if_neg h, if_neg h, if_neg h]
abbrev Nb := List (Int × List UInt8)
def ws (l : Nb) : List Stp := l.map fun p => .w p.1 p.2
def homeS (l : Nb) : List Stp := ws l ++ [.f, .w 1 (Hd.zeros 512), .f]
def logL (l : Nb) : Nb := l.mapIdx fun k x => (2 + (k : Int), x.2)
theorem logL_length (l : Nb) : (logL l).length = l.length := List.length_mapIdx
theorem logL_get (l : Nb) {k : Nat} (h : k < (logL l).length) : (logL l)[k] = (2 + (k : Int), (l[k]'(by rw [logL_length] at h; exact h)).2) := List.getElem_mapIdx ..
def commitS (l : Nb) (hdr : List UInt8) : List Stp := ws (logL l) ++ [.f, .w 1 hdr, .f] ++ homeS l
def hdrOf (l : Nb) : List UInt8 := Hd.laidM (l.map (·.1)) (Hd.sumM (Hd.laidM (l.map (·.1)) 0) (l.map (·.2))).toNat
def mayW (l : Nb) (n : Int) : Bool := Hd.okGo n 97 (l.map (·.1)) && decide ((l.length : Int) ≤ 96)
def wal (S : RD) (l : Nb) : RD × Int :=
  if l = [] then (S, 0) else if mayW l S.lasts.length = false then (S, 40) else if (l.map (·.2)).all (fun d => d.length == 512) = false then (S, 32)
    else if S.down = true then (S, 30) else runS (commitS l (hdrOf l)) S

/-! where no cut is near -/
structure Quiet (S : RD) : Prop where
  down : S.down = false
  left : S.left = 0
def putWs (S : RD) (l : Nb) : RD := l.foldl (fun S p => S.putW p.1 p.2) S
def InDisk (S : RD) (l : Nb) : Prop := ∀ p ∈ l, 0 ≤ p.1 ∧ p.1 < S.lasts.length ∧ p.2.length = 512
theorem write_quiet {S : RD} (q : Quiet S) {i : Int} {b : List UInt8} (h0 : 0 ≤ i) (h1 : i < S.lasts.length) (hb : b.length = 512) : S.write i b = (S.putW i b, 0) := by
  have hl : (S.putW i b).left = 0 := q.left
  unfold RD.write
  rw [q.down, if_neg (by simp), if_neg (fun x => x ⟨h0, h1⟩), if_neg (fun x => x hb)]
  unfold RD.step
  rw [hl, if_neg (by omega)]; rfl
theorem flush_quiet {S : RD} (q : Quiet S) : S.flush = (RD.flushed { S with flushes := IntKind.wrap .i64 (S.flushes + 1) }, 0) := by
  unfold RD.flush
  rw [q.down, if_neg (by simp)]
  unfold RD.step
  show (if 0 < S.left then _ else _) = _
  rw [q.left, if_neg (by omega)]
structure Put (S S' : RD) (l : Nb) : Prop where
  q : Quiet S'
  keep : S'.keep = S.keep
  lasts : S'.lasts = S.lasts
  pend : S'.pend = S.pend ++ l
  writes : S'.writes = S.writes + l.length
  flushes : S'.flushes = S.flushes
  tape : S'.tape.length = S.tape.length + l.length
theorem run_ws : ∀ (l : Nb) (S : RD), Quiet S → InDisk S l → 0 ≤ S.writes → S.writes + l.length ≤ 1000000000 → ∃ S', Put S S' l ∧ ∀ r, runS (ws l ++ r) S = runS r S' := by
  intro l
  induction l with
  | nil => intro S q _ _ _; exact ⟨S, ⟨q, rfl, rfl, by simp, by simp, rfl, by simp⟩, fun r => rfl⟩
  | cons p r ih =>
    intro S q hin h0 h1
    obtain ⟨a1, a2, a3⟩ := hin p (List.mem_cons_self ..)
    rw [List.length_cons] at h1
    have hw : (S.putW p.1 p.2).writes = S.writes + 1 := by
      show IntKind.wrap .i64 (S.writes + 1) = _
      exact wrap_i64 (by omega) (by omega)
    obtain ⟨S', P, e⟩ := ih (S.putW p.1 p.2) ⟨q.down, q.left⟩ (fun x hx => hin x (List.mem_cons_of_mem _ hx)) (by omega) (by omega)
    refine ⟨S', ⟨P.q, P.keep, P.lasts, ?_, ?_, P.flushes, ?_⟩, fun t => ?_⟩
    · rw [P.pend]; show (S.pend ++ [(p.1, p.2)]) ++ r = _; rw [List.append_assoc]; rfl
    · rw [P.writes, hw, List.length_cons]; omega
    · rw [P.tape, List.length_cons]
      show (S.tape ++ [_]).length + _ = _
      rw [List.length_append, List.length_singleton]; omega
    · show (if (S.write p.1 p.2).2 = 0 then runS (ws r ++ t) (S.write p.1 p.2).1 else _) = _
      rw [write_quiet q a1 a2 a3, if_pos rfl]
      exact e t
/-- writes, and a flush -/
structure Ph (S S' : RD) (l : Nb) : Prop where
  q : Quiet S'
  keep : S'.keep = S.keep
  lasts : S'.lasts = applyTo S.lasts (S.pend ++ l)
  pend : S'.pend = []
  writes : S'.writes = S.writes + l.length
  flushes : S'.flushes = S.flushes + 1
  tape : S'.tape.length = S.tape.length + l.length + 1
theorem run_ph (l : Nb) (S : RD) (q : Quiet S) (hin : InDisk S l) (h0 : 0 ≤ S.writes) (h1 : S.writes + l.length ≤ 1000000000) (h2 : 0 ≤ S.flushes) (h3 : S.flushes ≤ 1000000000) :
    ∃ S', Ph S S' l ∧ ∀ r, runS (ws l ++ Stp.f :: r) S = runS r S' := by
  obtain ⟨S1, P, e⟩ := run_ws l S q hin h0 h1
  refine ⟨RD.flushed { S1 with flushes := IntKind.wrap .i64 (S1.flushes + 1) }, ⟨⟨P.q.down, P.q.left⟩, P.keep, ?_, rfl, P.writes, ?_, ?_⟩, fun r => ?_⟩
  · show applyTo S1.lasts S1.pend = _; rw [P.lasts, P.pend]
  · show IntKind.wrap .i64 (S1.flushes + 1) = _
    rw [P.flushes]; exact wrap_i64 (by omega) (by omega)
  · show (S1.tape ++ [_]).length = _
    rw [List.length_append, List.length_singleton, P.tape]
  · rw [e]
    show (if (S1.flush).2 = 0 then runS r (S1.flush).1 else _) = _
    rw [flush_quiet P.q, if_pos rfl]
theorem Ph.n {S S' : RD} {l : Nb} (p : Ph S S' l) : S'.lasts.length = S.lasts.length := by rw [p.lasts, applyTo_length]
/-- what a commit leaves -/
structure Done (S S' : RD) (l : Nb) (hdr : List UInt8) : Prop where
  q : Quiet S'
  keep : S'.keep = S.keep
  lasts : S'.lasts = applyTo (applyTo (applyTo (applyTo S.lasts (S.pend ++ logL l)) [(1, hdr)]) l) [(1, Hd.zeros 512)]
  pend : S'.pend = []
  writes : S'.writes = S.writes + 2 * l.length + 2
  flushes : S'.flushes = S.flushes + 4
  tape : S'.tape.length = S.tape.length + 2 * l.length + 6
theorem Done.n {S S' : RD} {l : Nb} {hdr : List UInt8} (p : Done S S' l hdr) : S'.lasts.length = S.lasts.length := by
  rw [p.lasts, applyTo_length, applyTo_length, applyTo_length, applyTo_length]
theorem run_commit (l : Nb) (hdr : List UInt8) (S : RD) (q : Quiet S) (hin : InDisk S l) (hh : hdr.length = 512) (hn : 98 ≤ S.lasts.length) (hl : l.length ≤ 96) (h0 : 0 ≤ S.writes) (h1 : S.writes ≤ 100000000) (h2 : 0 ≤ S.flushes) (h3 : S.flushes ≤ 100000000) :
    ∃ S', Done S S' l hdr ∧ runS (commitS l hdr) S = (S', 0) := by
  have hll := logL_length l
  obtain ⟨S1, P1, e1⟩ := run_ph (logL l) S q (fun p hp => by
    obtain ⟨k, hk, rfl⟩ := List.getElem_of_mem hp
    rw [logL_get]
    have h := hin l[k] (List.getElem_mem _)
    exact ⟨by simp only; omega, by simp only; omega, h.2.2⟩) h0 (by omega) h2 (by omega)
  have n1 := P1.n
  have w1 := P1.writes
  have f1 := P1.flushes
  have g1 : ∀ x : List UInt8, x.length = 512 → ∀ {T : RD}, T.lasts.length = S.lasts.length → InDisk T [(1, x)] := fun x hx T hT p hp => by
    rw [List.mem_singleton.mp hp]; exact ⟨by simp, by simp only; omega, hx⟩
  obtain ⟨S2, P2, e2⟩ := run_ph [(1, hdr)] S1 P1.q (g1 hdr hh n1) (by omega) (by rw [List.length_singleton]; omega) (by omega) (by omega)
  have n2 := P2.n
  have w2 := P2.writes
  have f2 := P2.flushes
  rw [List.length_singleton] at w2
  obtain ⟨S3, P3, e3⟩ := run_ph l S2 P2.q (fun p hp => by have := hin p hp; rw [n2, n1]; exact this) (by omega) (by omega) (by omega) (by omega)
  have n3 := P3.n
  have w3 := P3.writes
  have f3 := P3.flushes
  obtain ⟨S4, P4, e4⟩ := run_ph [(1, Hd.zeros 512)] S3 P3.q (g1 _ (Hd.zeros_length 512) (by omega)) (by omega) (by rw [List.length_singleton]; omega) (by omega) (by omega)
  have w4 := P4.writes
  have f4 := P4.flushes
  rw [List.length_singleton] at w4
  refine ⟨S4, ⟨P4.q, by rw [P4.keep, P3.keep, P2.keep, P1.keep], ?_, P4.pend, by omega, by omega, ?_⟩, ?_⟩
  · rw [P4.lasts, P3.pend, P3.lasts, P2.pend, P2.lasts, P1.pend, P1.lasts]; rfl
  · rw [P4.tape, P3.tape, P2.tape, P1.tape, hll]
    simp only [List.length_singleton]; omega
  · have ee : commitS l hdr = ws (logL l) ++ Stp.f :: (ws [(1, hdr)] ++ Stp.f :: (ws l ++ Stp.f :: (ws [(1, Hd.zeros 512)] ++ Stp.f :: []))) := by
      unfold commitS homeS
      simp only [List.append_assoc, List.cons_append, List.nil_append]; rfl
    rw [ee, e1, e2, e3, e4]; rfl
/-- a block behind writes elsewhere -/
theorem applyTo_get {ls : List (List UInt8)} {ps : Nb} {i : Nat} (h : ∀ p ∈ ps, p.1 ≠ i ∧ 0 ≤ p.1) : (applyTo ls ps)[i]? = ls[i]? := by
  unfold applyTo
  induction ps generalizing ls with
  | nil => rfl
  | cons p r ih =>
    rw [List.foldl_cons, ih (fun x hx => h x (List.mem_cons_of_mem _ hx)), List.getElem?_set_ne]
    have := h p (List.mem_cons_self ..)
    omega
theorem applyTo_of {ls : List (List UInt8)} {ps : Nb} {i : Nat} {b : List UInt8} (hi : i < ls.length) (hm : ((i : Int), b) ∈ ps) (hu : ∀ c, ((i : Int), c) ∈ ps → c = b) (h0 : ∀ p ∈ ps, 0 ≤ p.1) : (applyTo ls ps)[i]? = some b := by
  unfold applyTo
  induction ps generalizing ls with
  | nil => cases hm
  | cons p r ih =>
    rw [List.foldl_cons]
    by_cases hr : ((i : Int), b) ∈ r
    · exact ih (by rw [List.length_set]; exact hi) hr (fun c hc => hu c (List.mem_cons_of_mem _ hc)) (fun x hx => h0 x (List.mem_cons_of_mem _ hx))
    · have e : p = ((i : Int), b) := by
        rcases List.mem_cons.mp hm with h | h
        · exact h.symm
        · exact absurd h hr
      have hno : ∀ x ∈ r, x.1 ≠ (i : Int) ∧ 0 ≤ x.1 := fun x hx => ⟨fun e2 => by
        have : x = ((i : Int), x.2) := by rw [← e2]
        rw [this] at hx
        have := hu _ (List.mem_cons_of_mem _ hx)
        rw [this] at hx; exact hr hx, h0 x (List.mem_cons_of_mem _ hx)⟩
      have := applyTo_get (ls := ls.set p.1.toNat p.2) hno
      unfold applyTo at this
      rw [this, e]
      show (ls.set ((i : Int)).toNat b)[i]? = _
      rw [Int.toNat_natCast, List.getElem?_set_self hi]
/-- a block of the disk behind a commit -/
theorem Done.get {S S' : RD} {l : Nb} {hdr : List UInt8} (p : Done S S' l hdr) (hp : S.pend = []) (hl : l.length ≤ 96) (hin : ∀ x ∈ l, 98 ≤ x.1) {i : Nat} (hi : 98 ≤ i) (hno : ∀ x ∈ l, x.1 ≠ i) : S'.lasts[i]? = S.lasts[i]? := by
  have o : ∀ x : List UInt8, ∀ p ∈ [((1 : Int), x)], p.1 ≠ i ∧ 0 ≤ p.1 := fun x p hp => by rw [List.mem_singleton.mp hp]; simp only; omega
  rw [p.lasts, applyTo_get (o _), applyTo_get (fun x hx => ⟨hno x hx, by have := hin x hx; omega⟩), applyTo_get (o _), hp, List.nil_append, applyTo_get]
  intro x hx
  obtain ⟨k, hk, rfl⟩ := List.getElem_of_mem hx
  rw [logL_get]
  rw [logL_length] at hk
  simp only; omega
theorem Done.put {S S' : RD} {l : Nb} {hdr : List UInt8} (p : Done S S' l hdr) (hin : ∀ x ∈ l, 98 ≤ x.1) {i : Nat} {b : List UInt8} (hi : 98 ≤ i) (hi2 : i < S.lasts.length) (hm : ((i : Int), b) ∈ l) (hu : ∀ c, ((i : Int), c) ∈ l → c = b) : S'.lasts[i]? = some b := by
  rw [p.lasts, applyTo_get, applyTo_of (b := b) (by rw [applyTo_length, applyTo_length]; exact hi2) hm hu (fun x hx => by have := hin x hx; omega)]
  intro p hp
  rw [List.mem_singleton.mp hp]; simp only; omega
theorem read_quiet {S : RD} (hp : S.pend = []) (i : Nat) : readAt S i = S.lasts.getD i [] := by unfold readAt; rw [hp]; rfl
end Go.Proofs.YtpleolmalbdpnaaDoor.Wc
