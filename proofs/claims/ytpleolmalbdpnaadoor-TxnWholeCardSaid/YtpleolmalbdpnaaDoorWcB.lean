import Derived.Test.YtpleolmalbdpnaaDoorDkF
import Derived.Test.YtpleolmalbdpnaaDoorAdN
import Derived.Test.YtpleolmalbdpnaaDoorHdB
import Derived.Test.YtpleolmalbdpnaaDoorTmC
/-
  A COMMIT, plainly: steps of a disk, one behind the other, and what they leave.
-/
namespace Go.Proofs.YtpleolmalbdpnaaDoor.Wc
open Go Go.Proofs Go.Proofs.YtpleolmalbdpnaaDoor.Wx Go.Proofs.YtpleolmalbdpnaaDoor.Hp Go.Proofs.YtpleolmalbdpnaaDoor.W Go.Proofs.YtpleolmalbdpnaaDoor.Ad

inductive Stp where
  | w (i : Int) (b : List UInt8)
  | f
def Stp.on (S : RD) : Stp → RD × Int
  | .w i b => S.write i b
  | .f => S.flush
def runS : List Stp → RD → RD × Int
  | [], S => (S, 0)
  | s :: r, S => if (s.on S).2 = 0 then runS r (s.on S).1 else s.on S
theorem runS_app (a b : List Stp) : ∀ S : RD, runS (a ++ b) S = if (runS a S).2 = 0 then runS b (runS a S).1 else runS a S := by
  induction a with
  | nil => intro S; show runS b S = if (0 : Int) = 0 then _ else _; rw [if_pos rfl]; rfl
  | cons s r ih =>
    intro S
    show (if (s.on S).2 = 0 then runS (r ++ b) (s.on S).1 else s.on S) = _
    have e : runS (s :: r) S = if (s.on S).2 = 0 then runS r (s.on S).1 else s.on S := rfl
    rw [e]
    by_cases h : (s.on S).2 = 0
    · rw [if_pos h, if_pos h]; exact ih _
    · rw [if_neg h, if_neg h, if_neg h]
abbrev Nb := List (Int × List UInt8)
def ws (l : Nb) : List Stp := l.map fun p => .w p.1 p.2
def homeS (l : Nb) : List Stp := ws l ++ [.f, .w 1 (Hd.zeros 512), .f]
def logL (l : Nb) : Nb := l.mapIdx fun k x => (2 + (k : Int), x.2)
theorem logL_length (l : Nb) : (logL l).length = l.length := List.length_mapIdx
theorem logL_get (l : Nb) {k : Nat} (h : k < (logL l).length) : (logL l)[k] = (2 + (k : Int), (l[k]'(by rw [logL_length] at h; exact h)).2) := List.getElem_mapIdx ..
def commitS (l : Nb) (hdr : List UInt8) : List Stp := ws (logL l) ++ [.f, .w 1 hdr, .f] ++ homeS l
def hdrOf (l : Nb) : List UInt8 := Hd.laidM (l.map (·.1)) (Hd.sumM (Hd.laidM (l.map (·.1)) 0) (l.map (·.2))).toNat
def mayW (l : Nb) (n : Int) : Bool := Hd.okGo n 97 (l.map (·.1)) && decide ((l.length : Int) ≤ 96)
def wal (S : RD) (l : Nb) : RD × Int :=
  if l = [] then (S, 0) else if mayW l S.lasts.length = false then (S, 40) else if (l.map (·.2)).all (fun d => d.length == 512) = false then (S, 32)
    else if S.down = true then (S, 30) else runS (commitS l (hdrOf l)) S

/-! where no cut is near -/
structure Quiet (S : RD) : Prop where
  down : S.down = false
  left : S.left = 0
def putWs (S : RD) (l : Nb) : RD := l.foldl (fun S p => S.putW p.1 p.2) S
def InDisk (S : RD) (l : Nb) : Prop := ∀ p ∈ l, 0 ≤ p.1 ∧ p.1 < S.lasts.length ∧ p.2.length = 512
theorem write_quiet {S : RD} (q : Quiet S) {i : Int} {b : List UInt8} (h0 : 0 ≤ i) (h1 : i < S.lasts.length) (hb : b.length = 512) : S.write i b = (S.putW i b, 0) := by
  have hl : (S.putW i b).left = 0 := q.left
  unfold RD.write
  rw [q.down, if_neg (by simp), if_neg (fun x => x ⟨h0, h1⟩), if_neg (fun x => x hb)]
  unfold RD.step
  rw [hl, if_neg (by omega)]; rfl
theorem flush_quiet {S : RD} (q : Quiet S) : S.flush = (RD.flushed { S with flushes := IntKind.wrap .i64 (S.flushes + 1) }, 0) := by
  unfold RD.flush
  rw [q.down, if_neg (by simp)]
  unfold RD.step
  show (if 0 < S.left then _ else _) = _
  rw [q.left, if_neg (by omega)]
structure Put (S S' : RD) (l : Nb) : Prop where
  q : Quiet S'
  keep : S'.keep = S.keep
  lasts : S'.lasts = S.lasts
  pend : S'.pend = S.pend ++ l
  writes : S'.writes = S.writes + l.length
  flushes : S'.flushes = S.flushes
  tape : S'.tape.length = S.tape.length + l.length
theorem run_ws : ∀ (l : Nb) (S : RD), Quiet S → InDisk S l → 0 ≤ S.writes → S.writes + l.length ≤ 1000000000 → ∃ S', Put S S' l ∧ ∀ r, runS (ws l ++ r) S = runS r S' := by
  intro l
  induction l with
  | nil => intro S q _ _ _; exact ⟨S, ⟨q, rfl, rfl, by simp, by simp, rfl, by simp⟩, fun r => rfl⟩
  | cons p r ih =>
    intro S q hin h0 h1
    obtain ⟨a1, a2, a3⟩ := hin p (List.mem_cons_self ..)
    rw [List.length_cons] at h1
    have hw : (S.putW p.1 p.2).writes = S.writes + 1 := by
      show IntKind.wrap .i64 (S.writes + 1) = _
      exact wrap_i64 (by omega) (by omega)
    obtain ⟨S', P, e⟩ := ih (S.putW p.1 p.2) ⟨q.down, q.left⟩ (fun x hx => hin x (List.mem_cons_of_mem _ hx)) (by omega) (by omega)
    refine ⟨S', ⟨P.q, P.keep, P.lasts, ?_, ?_, P.flushes, ?_⟩, fun t => ?_⟩
    · rw [P.pend]; show (S.pend ++ [(p.1, p.2)]) ++ r = _; rw [List.append_assoc]; rfl
    · rw [P.writes, hw, List.length_cons]; omega
    · rw [P.tape, List.length_cons]
      show (S.tape ++ [_]).length + _ = _
      rw [List.length_append, List.length_singleton]; omega
    · show (if (S.write p.1 p.2).2 = 0 then runS (ws r ++ t) (S.write p.1 p.2).1 else _) = _
      rw [write_quiet q a1 a2 a3, if_pos rfl]
      exact e t
/-- writes, and a flush -/
structure Ph (S S' : RD) (l : Nb) : Prop where
  q : Quiet S'
  keep : S'.keep = S.keep
  lasts : S'.lasts = applyTo S.lasts (S.pend ++ l)
  pend : S'.pend = []
  writes : S'.writes = S.writes + l.length
  flushes : S'.flushes = S.flushes + 1
  tape : S'.tape.length = S.tape.length + l.length + 1
theorem run_ph (l : Nb) (S : RD) (q : Quiet S) (hin : InDisk S l) (h0 : 0 ≤ S.writes) (h1 : S.writes + l.length ≤ 1000000000) (h2 : 0 ≤ S.flushes) (h3 : S.flushes ≤ 1000000000) :
    ∃ S', Ph S S' l ∧ ∀ r, runS (ws l ++ Stp.f :: r) S = runS r S' := by
  obtain ⟨S1, P, e⟩ := run_ws l S q hin h0 h1
  refine ⟨RD.flushed { S1 with flushes := IntKind.wrap .i64 (S1.flushes + 1) }, ⟨⟨P.q.down, P.q.left⟩, P.keep, ?_, rfl, P.writes, ?_, ?_⟩, fun r => ?_⟩
  · show applyTo S1.lasts S1.pend = _; rw [P.lasts, P.pend]
  · show IntKind.wrap .i64 (S1.flushes + 1) = _
    rw [P.flushes]; exact wrap_i64 (by omega) (by omega)
  · show (S1.tape ++ [_]).length = _
    rw [List.length_append, List.length_singleton, P.tape]
  · rw [e]
    show (if (S1.flush).2 = 0 then runS r (S1.flush).1 else _) = _
    rw [flush_quiet P.q, if_pos rfl]
theorem Ph.n {S S' : RD} {l : Nb} (p : Ph S S' l) : S'.lasts.length = S.lasts.length := by rw [p.lasts, applyTo_length]
/-- what a commit leaves -/
structure Done (S S' : RD) (l : Nb) (hdr : List UInt8) : Prop where
  q : Quiet S'
  keep : S'.keep = S.keep
  lasts : S'.lasts = applyTo (applyTo (applyTo (applyTo S.lasts (S.pend ++ logL l)) [(1, hdr)]) l) [(1, Hd.zeros 512)]
  pend : S'.pend = []
  writes : S'.writes = S.writes + 2 * l.length + 2
  flushes : S'.flushes = S.flushes + 4
  tape : S'.tape.length = S.tape.length + 2 * l.length + 6
theorem Done.n {S S' : RD} {l : Nb} {hdr : List UInt8} (p : Done S S' l hdr) : S'.lasts.length = S.lasts.length := by
  rw [p.lasts, applyTo_length, applyTo_length, applyTo_length, applyTo_length]
theorem run_commit (l : Nb) (hdr : List UInt8) (S : RD) (q : Quiet S) (hin : InDisk S l) (hh : hdr.length = 512) (hn : 98 ≤ S.lasts.length) (hl : l.length ≤ 96) (h0 : 0 ≤ S.writes) (h1 : S.writes ≤ 100000000) (h2 : 0 ≤ S.flushes) (h3 : S.flushes ≤ 100000000) :
    ∃ S', Done S S' l hdr ∧ runS (commitS l hdr) S = (S', 0) := by
  have hll := logL_length l
  obtain ⟨S1, P1, e1⟩ := run_ph (logL l) S q (fun p hp => by
    obtain ⟨k, hk, rfl⟩ := List.getElem_of_mem hp
    rw [logL_get]
    have h := hin l[k] (List.getElem_mem _)
    exact ⟨by simp only; omega, by simp only; omega, h.2.2⟩) h0 (by omega) h2 (by omega)
  have n1 := P1.n
  have w1 := P1.writes
  have f1 := P1.flushes
  have g1 : ∀ x : List UInt8, x.length = 512 → ∀ {T : RD}, T.lasts.length = S.lasts.length → InDisk T [(1, x)] := fun x hx T hT p hp => by
    rw [List.mem_singleton.mp hp]; exact ⟨by simp, by simp only; omega, hx⟩
  obtain ⟨S2, P2, e2⟩ := run_ph [(1, hdr)] S1 P1.q (g1 hdr hh n1) (by omega) (by rw [List.length_singleton]; omega) (by omega) (by omega)
  have n2 := P2.n
  have w2 := P2.writes
  have f2 := P2.flushes
  rw [List.length_singleton] at w2
  obtain ⟨S3, P3, e3⟩ := run_ph l S2 P2.q (fun p hp => by have := hin p hp; rw [n2, n1]; exact this) (by omega) (by omega) (by omega) (by omega)
  have n3 := P3.n
  have w3 := P3.writes
  have f3 := P3.flushes
  obtain ⟨S4, P4, e4⟩ := run_ph [(1, Hd.zeros 512)] S3 P3.q (g1 _ (Hd.zeros_length 512) (by omega)) (by omega) (by rw [List.length_singleton]; omega) (by omega) (by omega)
  have w4 := P4.writes
  have f4 := P4.flushes
  rw [List.length_singleton] at w4
  refine ⟨S4, ⟨P4.q, by rw [P4.keep, P3.keep, P2.keep, P1.keep], ?_, P4.pend, by omega, by omega, ?_⟩, ?_⟩
  · rw [P4.lasts, P3.pend, P3.lasts, P2.pend, P2.lasts, P1.pend, P1.lasts]; rfl
  · rw [P4.tape, P3.tape, P2.tape, P1.tape, hll]
    simp only [List.length_singleton]; omega
  · have ee : commitS l hdr = ws (logL l) ++ Stp.f :: (ws [(1, hdr)] ++ Stp.f :: (ws l ++ Stp.f :: (ws [(1, Hd.zeros 512)] ++ Stp.f :: []))) := by
      unfold commitS homeS
      simp only [List.append_assoc, List.cons_append, List.nil_append]; rfl
    rw [ee, e1, e2, e3, e4]; rfl
/-- a block behind writes elsewhere -/
theorem applyTo_get {ls : List (List UInt8)} {ps : Nb} {i : Nat} (h : ∀ p ∈ ps, p.1 ≠ i ∧ 0 ≤ p.1) : (applyTo ls ps)[i]? = ls[i]? := by
  unfold applyTo
  induction ps generalizing ls with
  | nil => rfl
  | cons p r ih =>
    rw [List.foldl_cons, ih (fun x hx => h x (List.mem_cons_of_mem _ hx)), List.getElem?_set_ne]
    have := h p (List.mem_cons_self ..)
    omega
theorem applyTo_of {ls : List (List UInt8)} {ps : Nb} {i : Nat} {b : List UInt8} (hi : i < ls.length) (hm : ((i : Int), b) ∈ ps) (hu : ∀ c, ((i : Int), c) ∈ ps → c = b) (h0 : ∀ p ∈ ps, 0 ≤ p.1) : (applyTo ls ps)[i]? = some b := by
  unfold applyTo
  induction ps generalizing ls with
  | nil => cases hm
  | cons p r ih =>
    rw [List.foldl_cons]
    by_cases hr : ((i : Int), b) ∈ r
    · exact ih (by rw [List.length_set]; exact hi) hr (fun c hc => hu c (List.mem_cons_of_mem _ hc)) (fun x hx => h0 x (List.mem_cons_of_mem _ hx))
    · have e : p = ((i : Int), b) := by
        rcases List.mem_cons.mp hm with h | h
        · exact h.symm
        · exact absurd h hr
      have hno : ∀ x ∈ r, x.1 ≠ (i : Int) ∧ 0 ≤ x.1 := fun x hx => ⟨fun e2 => by
        have : x = ((i : Int), x.2) := by rw [← e2]
        rw [this] at hx
        have := hu _ (List.mem_cons_of_mem _ hx)
        rw [this] at hx; exact hr hx, h0 x (List.mem_cons_of_mem _ hx)⟩
      have := applyTo_get (ls := ls.set p.1.toNat p.2) hno
      unfold applyTo at this
      rw [this, e]
      show (ls.set ((i : Int)).toNat b)[i]? = _
      rw [Int.toNat_natCast, List.getElem?_set_self hi]
/-- a block of the disk behind a commit -/
theorem Done.get {S S' : RD} {l : Nb} {hdr : List UInt8} (p : Done S S' l hdr) (hp : S.pend = []) (hl : l.length ≤ 96) (hin : ∀ x ∈ l, 98 ≤ x.1) {i : Nat} (hi : 98 ≤ i) (hno : ∀ x ∈ l, x.1 ≠ i) : S'.lasts[i]? = S.lasts[i]? := by
  have o : ∀ x : List UInt8, ∀ p ∈ [((1 : Int), x)], p.1 ≠ i ∧ 0 ≤ p.1 := fun x p hp => by rw [List.mem_singleton.mp hp]; simp only; omega
  rw [p.lasts, applyTo_get (o _), applyTo_get (fun x hx => ⟨hno x hx, by have := hin x hx; omega⟩), applyTo_get (o _), hp, List.nil_append, applyTo_get]
  intro x hx
  obtain ⟨k, hk, rfl⟩ := List.getElem_of_mem hx
  rw [logL_get]
  rw [logL_length] at hk
  simp only; omega
theorem Done.put {S S' : RD} {l : Nb} {hdr : List UInt8} (p : Done S S' l hdr) (hin : ∀ x ∈ l, 98 ≤ x.1) {i : Nat} {b : List UInt8} (hi : 98 ≤ i) (hi2 : i < S.lasts.length) (hm : ((i : Int), b) ∈ l) (hu : ∀ c, ((i : Int), c) ∈ l → c = b) : S'.lasts[i]? = some b := by
  rw [p.lasts, applyTo_get, applyTo_of (b := b) (by rw [applyTo_length, applyTo_length]; exact hi2) hm hu (fun x hx => by have := hin x hx; omega)]
  intro p hp
  rw [List.mem_singleton.mp hp]; simp only; omega
theorem read_quiet {S : RD} (hp : S.pend = []) (i : Nat) : readAt S i = S.lasts.getD i [] := by unfold readAt; rw [hp]; rfl
end Go.Proofs.YtpleolmalbdpnaaDoor.Wc
/-
  A COMMIT: what wal's functions compute.
-/
namespace Go.Proofs.YtpleolmalbdpnaaDoor.Wc
open Go Go.Proofs Go.Proofs.YtpleolmalbdpnaaDoor.Wx Go.Proofs.YtpleolmalbdpnaaDoor.Hp Go.Proofs.YtpleolmalbdpnaaDoor.W Go.Proofs.YtpleolmalbdpnaaDoor.Ad

abbrev Sc := Tm.Sc
theorem DiskF.write {h : Heap} {D : Nat → Prop} {d : Option Addr} {S : RD} {i : Int} {a : Option Addr} {l c : Nat} {bs : List UInt8} {K : Value → Heap → Prop} (A : DiskF h D d S)
    (B : StrAt h a l bs) (hac : ∀ p, a = some p → ¬ D p.block) (hp : S.pend.length < 1000000000) (ht : S.tape.length < 1000000000)
    (hK : ∀ h' D', Fr D h h' → Gw h D h' D' → DiskF h' D' d (S.write i bs).1 → K (.int .i64 (S.write i bs).2) h') : C.adisk_Disk_Write d i a l c h K := by
  obtain ⟨col, A, hz, hD⟩ := A
  refine Write_spec A B (fun p e _ x => hac p e ((hD _).mpr x)) hp ht fun h' col' f g A' => ?_
  obtain ⟨D', g', a', _⟩ := DiskF.gw hD g f.size A'
  exact hK h' D' (f.mono fun b _ x => (hD b).mpr x) g' a'
theorem DiskF.flush {h : Heap} {D : Nat → Prop} {d : Option Addr} {S : RD} {K : Value → Heap → Prop} (A : DiskF h D d S) (ht : S.tape.length < 1000000000)
    (hK : ∀ h' D', Fr D h h' → Gw h D h' D' → DiskF h' D' d S.flush.1 → K (.int .i64 S.flush.2) h') : C.adisk_Disk_Flush d h K := by
  obtain ⟨col, A, hz, hD⟩ := A
  refine Flush_spec A ht fun h' col' f g A' => ?_
  obtain ⟨D', g', a', _⟩ := DiskF.gw hD g f.size A'
  exact hK h' D' (f.mono fun b _ x => (hD b).mpr x) g' a'
theorem DiskF.down {h : Heap} {D : Nat → Prop} {d : Option Addr} {S : RD} {K : Value → Heap → Prop} (A : DiskF h D d S) (hK : K (.bool S.down) h) : C.adisk_Disk_Down d h K := by
  obtain ⟨col, A, _⟩ := A
  exact Down_spec A hK
/-- a step, as a value -/
inductive SV where
  | w (ib bb : Nat) (i : Int) (s : Sc) (b : List UInt8)
  | f
def SV.v : SV → Value
  | .w ib bb _ _ _ => .func (.func 72) #[] ⟨[.pointer (some ⟨ib, 0, none⟩), .pointer (some ⟨bb, 0, none⟩)]⟩
  | .f => .func (.func 74) #[] ⟨[]⟩
def SV.stp : SV → Stp
  | .w _ _ i _ b => .w i b
  | .f => .f
def SV.Ok (h : Heap) (D : Nat → Prop) : SV → Prop
  | .w ib bb i s b => rd h ib = [.int .i64 i] ∧ rd h bb = [s.v] ∧ (ib < h.size ∧ ¬ D ib) ∧ (bb < h.size ∧ ¬ D bb) ∧ StrAt h s.a s.l b ∧ ∀ p, s.a = some p → p.block < h.size ∧ ¬ D p.block
  | .f => True
theorem SV.Ok.fr {h h' : Heap} {D D' : Nat → Prop} {x : SV} (a : x.Ok h D) (f : Fr D h h') (g : Gw h D h' D') : x.Ok h' D' := by
  cases x with
  | f => trivial
  | w ib bb i s b =>
    obtain ⟨a1, a2, a3, a4, a5, a6⟩ := a
    have k : ∀ {c : Nat}, c < h.size ∧ ¬ D c → c < h'.size ∧ ¬ D' c := fun {c} hc => ⟨Nat.lt_of_lt_of_le hc.1 f.size, fun y => hc.2 ((g.old c hc.1).mp y)⟩
    exact ⟨(f.rd a3.1 a3.2).trans a1, (f.rd a4.1 a4.2).trans a2, k a3, k a4, StrAt.fr f a5 fun p e => (a6 p e).2, fun p e => k (a6 p e)⟩
theorem SV.Ok.no {h h' : Heap} {D : Nat → Prop} {x : SV} (a : x.Ok h D) (f : Fr No h h') (hD : ∀ b, D b → b < h.size) : x.Ok h' D :=
  a.fr (f.mono fun _ _ y => y.elim) (Gw.refl f.size hD)
theorem step_len (S : RD) (f : RD → RD) (t p : Nat) (h1 : (∀ S' : RD, S'.tape = S.tape → S'.pend = S.pend → (f S').tape.length ≤ t ∧ (f S').pend.length ≤ p)) (h2 : S.tape.length ≤ t) : (S.step f).1.tape.length ≤ t ∧ (S.step f).1.pend.length ≤ p := by
  unfold RD.step
  by_cases a : 0 < S.left
  · rw [if_pos a]
    by_cases b : S.left - 1 = 0
    · rw [if_pos b]; exact ⟨h2, Nat.zero_le _⟩
    · rw [if_neg b]; exact h1 _ rfl rfl
  · rw [if_neg a]; exact h1 _ rfl rfl
theorem write_len (S : RD) (s : Stp) : (s.on S).1.tape.length ≤ S.tape.length + 1 ∧ (s.on S).1.pend.length ≤ S.pend.length + 1 := by
  have no : S.tape.length ≤ S.tape.length + 1 ∧ S.pend.length ≤ S.pend.length + 1 := ⟨Nat.le_succ _, Nat.le_succ _⟩
  cases s with
  | w i b =>
    show (S.write i b).1.tape.length ≤ _ ∧ (S.write i b).1.pend.length ≤ _
    have e1 : (S.putW i b).tape.length = S.tape.length + 1 := by show (S.tape ++ [_]).length = _; rw [List.length_append]; rfl
    have e2 : (S.putW i b).pend.length = S.pend.length + 1 := by show (S.pend ++ [_]).length = _; rw [List.length_append]; rfl
    unfold RD.write
    split
    · exact no
    · split
      · exact no
      · split
        · exact no
        · exact step_len _ _ _ _ (fun S' h1 h2 => by show S'.tape.length ≤ _ ∧ S'.pend.length ≤ _; rw [h1, h2, e1, e2]; exact ⟨Nat.le_refl _, Nat.le_refl _⟩) (by rw [e1]; exact Nat.le_refl _)
  | f =>
    show S.flush.1.tape.length ≤ _ ∧ S.flush.1.pend.length ≤ _
    unfold RD.flush
    split
    · exact no
    · refine step_len _ _ _ _ (fun S' h1 h2 => ?_) (Nat.le_succ _)
      show (S'.tape ++ [_]).length ≤ _ ∧ ([] : List (Int × List UInt8)).length ≤ _
      rw [List.length_append, h1]
      exact ⟨Nat.le_refl _, Nat.zero_le _⟩
/-- one step is done -/
theorem step_spec {h : Heap} {D : Nat → Prop} {d : Option Addr} {S : RD} {x : SV} {K : Value → Heap → Prop} (A : DiskF h D d S) (o : x.Ok h D) (hp : S.pend.length < 1000000000) (ht : S.tape.length < 1000000000)
    (hK : ∀ h' D', Fr D h h' → Gw h D h' D' → DiskF h' D' d (x.stp.on S).1 → K (.int .i64 (x.stp.on S).2) h') : HCallsV Tryd.prog x.v [.pointer d] h K := by
  cases x with
  | w ib bb i s b =>
    obtain ⟨a1, a2, a3, a4, a5, a6⟩ := o
    show C.wal_steps_write_c1 d (some ⟨ib, 0, none⟩) (some ⟨bb, 0, none⟩) h K
    refine wal_steps_write_c1.ok (os ⟨_, rdc a1 rfl, os ⟨s.a, s.l, s.c, rdc a2 rfl, DiskF.write A a5 (fun p e => (a6 p e).2) hp ht fun h' D' f g A' => ⟨_, rfl, hK h' D' f g A'⟩⟩⟩)
  | f =>
    show C.wal_steps_flush_c1 d h K
    exact wal_steps_flush_c1.ok (DiskF.flush A ht fun h' D' f g A' => ⟨_, rfl, hK h' D' f g A'⟩)
theorem do_spec {h : Heap} {D : Nat → Prop} {d : Option Addr} {S : RD} {xs : List SV} {a : Option Addr} {c : Nat} {K : Value → Heap → Prop} (A : DiskF h D d S) (o : ∀ x ∈ xs, x.Ok h D)
    (s : SlCells h a (xs.map SV.v)) (ha : ∀ p, a = some p → p.block < h.size ∧ ¬ D p.block) (hp : S.pend.length + xs.length < 1000000000) (ht : S.tape.length + xs.length < 1000000000)
    (hK : ∀ h' D', Fr D h h' → Gw h D h' D' → DiskF h' D' d (runS (xs.map SV.stp) S).1 → K (.int .i64 (runS (xs.map SV.stp) S).2) h') : C.wal_steps_do a xs.length c d h K := by
  refine wal_steps_do.ok ⟨fun n hh => 0 ≤ n ∧ n ≤ xs.length ∧ ∃ D' S', DiskF hh D' d S' ∧ Fr D h hh ∧ Gw h D hh D' ∧ S'.tape.length ≤ S.tape.length + n.toNat ∧ S'.pend.length ≤ S.pend.length + n.toNat ∧ runS (xs.map SV.stp) S = runS ((xs.drop n.toNat).map SV.stp) S',
    fun n _ => ((xs.length : Int) - n).toNat, ⟨by omega, by omega, D, S, A, Fr.refl _ _, Gw.refl (Nat.le_refl _) (fun b hb => A.lt hb), by omega, by omega, rfl⟩, ?_⟩
  rintro n h2 ⟨n0, n1, D', S', A', f, g, t1, t2, e⟩
  refine cd (fun hn => ?_) fun hn => ?_
  · have hn' : n.toNat < xs.length := by omega
    refine ⟨⟨n0, hn⟩, ?_⟩
    cases a with
    | none =>
      have s : xs.map SV.v = [] := s
      have := List.map_eq_nil_iff.mp s
      rw [this] at hn'; exact absurd hn' (by simp)
    | some p =>
      have cv : cellOf h2 (p.add n.toNat) = some xs[n.toNat].v := Cells.cell (Cells.fr f s (ha p rfl).2) (by rw [List.getElem?_map, List.getElem?_eq_getElem hn']; rfl)
      rw [List.drop_eq_getElem_cons hn', List.map_cons] at e
      have e : runS (xs.map SV.stp) S = if (xs[n.toNat].stp.on S').2 = 0 then runS ((xs.drop (n.toNat + 1)).map SV.stp) (xs[n.toNat].stp.on S').1 else xs[n.toNat].stp.on S' := e
      refine os ⟨_, cv, step_spec A' ((o _ (List.getElem_mem hn')).fr f g) (by omega) (by omega) fun h3 D3 f3 g3 A3 => ⟨_, rfl, cn (fun he => ?_) fun he => ?_⟩⟩
      · rw [if_neg he] at e
        have F : Fr D h h3 := f.trans f3 fun b hb x => (g.old b hb).mp x
        rw [e] at hK
        exact hK h3 D3 F (g.trans g3 f.size) A3
      · rw [if_pos he] at e
        have F : Fr D h h3 := f.trans f3 fun b hb x => (g.old b hb).mp x
        have l := write_len S' xs[n.toNat].stp
        rw [wrap_i64 (by omega) (by omega)]
        refine ⟨⟨by omega, by omega, D3, _, A3, F, g.trans g3 f.size, by omega, by omega, ?_⟩, falls hn⟩
        rw [e, show (n + 1).toNat = n.toNat + 1 by omega]
  · rw [List.drop_of_length_le (by omega)] at e
    have e : runS (xs.map SV.stp) S = (S', 0) := e
    rw [e] at hK
    exact hK h2 D' f g A'
/-! building the row of steps: R: the blocks of the row -/
structure Bd (n0 : Nat) (D : Nat → Prop) (hh : Heap) (sb : Nat) (R : Nat → Prop) (xs : List SV) : Prop where
  rsb : R sb
  ge : ∀ b, R b → n0 ≤ b ∧ b < hh.size
  own : Own hh sb
  row : ∃ a c, rd hh sb = [.slice a xs.length c] ∧ Sl hh 1 a xs.length c (xs.map SV.v) (fun b => R b ∧ b ≠ sb)
  ok : ∀ x ∈ xs, x.Ok hh (fun b => D b ∨ R b)
theorem Bd.no {n0 : Nat} {D : Nat → Prop} {hh h' : Heap} {sb : Nat} {R : Nat → Prop} {xs : List SV} (b : Bd n0 D hh sb R xs) (f : Fr No hh h') (hD : ∀ b, D b → b < hh.size) : Bd n0 D h' sb R xs := by
  obtain ⟨a, c, e, s⟩ := b.row
  exact ⟨b.rsb, fun x hx => ⟨(b.ge x hx).1, Nat.lt_of_lt_of_le (b.ge x hx).2 f.size⟩, f.own b.own.lt (fun x => x) b.own, ⟨a, c, (f.rd b.own.lt fun x => x).trans e, s.fr f fun _ _ _ x => x⟩,
    fun x hx => (b.ok x hx).no f fun y hy => hy.elim (hD y) fun z => (b.ge y z).2⟩
theorem append_one {n0 : Nat} {D : Nat → Prop} {hh : Heap} {sb : Nat} {R : Nat → Prop} {xs : List SV} {x : SV} {elem : TI} {e : Nat} {K : Heap → Prop} {v : Value} (b : Bd n0 D hh sb R xs) (hD : ∀ b, D b → b < n0) (hx : x.Ok hh (fun b => D b ∨ R b)) (hv : v = x.v) (hl : xs.length < 1000000)
    (hz : elem.zero.length = elem.cells) (hc : elem.cells = 1) (hby : elem.bytes ≤ 64)
    (hK : ∀ h' R', Fr R hh h' → (∀ b, R' b → R b ∨ hh.size ≤ b) → Bd n0 D h' sb R' (xs ++ [x]) → K h') :
    ∀ sA sL sC, cellOf hh ⟨sb, 0, none⟩ = some (.slice sA sL sC) →
    New [v] e hh fun h4 => ∃ new1 : List Value, List.length new1 = 1 * 1 ∧ SlCells h4 (some ⟨hh.size, 0, none⟩) new1 ∧ (∀ v ∈ new1, v.oneCell' = true) ∧
      AppendP elem e sA sL sC 1 new1 h4 fun sA2 sL2 sC2 h5 => onSome (some (⟨sb, 0, none⟩ : Addr)) fun p2 => Wx.Put p2 (.slice sA2 sL2 sC2) h5 fun h6 => K h6 := by
  intro sA sL sC hs
  subst hv
  obtain ⟨a, c, er, s⟩ := b.row
  have hs' : some (Value.slice a xs.length c) = some (.slice sA sL sC) := (rdc er rfl).symm.trans hs
  cases hs'
  refine New.intro fun h4 n4 => ?_
  have z4 := n4.size
  have sbl := b.own.lt
  have one : x.v.oneCell' = true := by cases x <;> rfl
  refine ⟨[x.v], rfl, cellsAll n4.rd, by intro v hv; rw [List.mem_singleton.mp hv]; exact one, ?_⟩
  have s4 : Sl h4 elem.cells sA xs.length sC (xs.map SV.v) (fun b => R b ∧ b ≠ sb) := by rw [hc]; exact s.fr n4.fr fun _ _ _ x => x
  refine append_own s4 (by rw [hc]; rfl) hz (Nat.le_trans (Nat.mul_le_mul (show xs.length + 1 ≤ 1000000 by omega) hby) (by decide)) (by omega) fun a' c' h5 f5 s5 => ?_
  rw [hc] at s5
  have z5 := f5.size
  have f45 : Fr (fun b => R b ∧ b ≠ sb) hh h5 := (n4.fr.mono fun _ _ x => x.elim).trans f5 fun b _ x => x
  have o5 : Own h5 sb := f45.own sbl (fun x => x.2 rfl) b.own
  have r5 : rd h5 sb = [.slice sA xs.length sC] := (f45.rd sbl fun x => x.2 rfl).trans er
  refine os (Put.intro o5 (by rw [r5]; exact Nat.one_pos) fun h6 d6 => ?_)
  rw [r5] at d6
  have z6 := d6.size
  have hb := b.rsb
  have f46 : Fr R hh h6 := (f45.mono fun b _ x => x.1).did d6 fun _ => hb
  have s6 : Sl h6 1 a' (xs.length + 1) c' (xs.map SV.v ++ [x.v]) (fun b => (R b ∧ b ≠ sb) ∨ h4.size ≤ b) := s5.fr d6.fr fun b hb x e => by
    have e : b = sb := e
    rcases x with x | x
    · exact x.2 e
    · omega
  have ge := b.ge
  have g : Gw hh (fun b => D b ∨ R b) h6 (fun b => D b ∨ ((R b ∨ h4.size ≤ b) ∧ b < h6.size)) := by
    refine ⟨fun y hy => ?_, fun y hy => ?_⟩
    · constructor
      · rintro (q | ⟨q | q, _⟩)
        · exact .inl q
        · exact .inr q
        · omega
      · rintro (q | q)
        · exact .inl q
        · exact .inr ⟨.inl q, by omega⟩
    · rcases hy with q | q
      · have := hD y q
        have := (ge _ hb).1
        omega
      · exact q.2
  have fx : Fr (fun b => D b ∨ R b) hh h6 := f46.mono fun _ _ x => .inr x
  refine hK h6 (fun b => (R b ∨ h4.size ≤ b) ∧ b < h6.size) f46 (fun y hy => hy.1.imp id fun q => by omega) ⟨⟨.inl hb, by omega⟩, fun y hy => ⟨?_, hy.2⟩, d6.own, ⟨a', c', ?_, ?_⟩, fun y hy => ?_⟩
  · rcases hy.1 with q | q
    · exact (ge y q).1
    · have := (ge _ hb).1
      omega
  · rw [d6.rd, List.length_append, List.length_singleton]; rfl
  · rw [List.length_append, List.length_singleton, List.map_append]
    have l6 : ∀ y, Own h6 y → y < h6.size := fun y o => o.lt
    obtain ⟨q1, q2⟩ := s6
    refine ⟨q1, ?_⟩
    cases a' with
    | none => exact q2
    | some p =>
      obtain ⟨a1, a2, a3, a4⟩ := q2
      refine ⟨a1, ⟨⟨a2.imp (·.1) id, a3.lt⟩, fun e => ?_⟩, a3, a4⟩
      rcases a2 with q | q
      · exact q.2 e
      · omega
  · rcases List.mem_append.mp hy with q | q
    · exact (b.ok y q).fr fx g
    · rw [List.mem_singleton.mp q]; exact hx.fr fx g
theorem steps_write_spec {n0 : Nat} {D : Nat → Prop} {hh : Heap} {sb : Nat} {R : Nat → Prop} {xs : List SV} {i : Int} {s : Sc} {bs : List UInt8} {K : Value → Heap → Prop} (b : Bd n0 D hh sb R xs) (hD : ∀ b, D b → b < n0) (B : StrAt hh s.a s.l bs)
    (hs : ∀ p, s.a = some p → p.block < hh.size ∧ ¬ (D p.block ∨ R p.block)) (hl : xs.length < 1000000)
    (hK : ∀ h' R' ib bb, Fr R hh h' → (∀ b, R' b → R b ∨ hh.size ≤ b) → Bd n0 D h' sb R' (xs ++ [.w ib bb i s bs]) → K (.tuple #[]) h') : C.wal_steps_write (some ⟨sb, 0, none⟩) i s.a s.l s.c hh K := by
  refine wal_steps_write.ok (New.intro fun h2 n2 => New.intro fun h3 n3 => os ?_)
  have F : Fr No hh h3 := n2.fr.new n3
  have z2 := n2.size
  have z3 := n3.size
  have n0s : n0 ≤ hh.size := by have := b.ge sb b.rsb; omega
  have b3 := b.no F fun x hx => by have := hD x hx; omega
  have no : ∀ x, hh.size ≤ x → ¬ (D x ∨ R x) := fun x hx y => by
    rcases y with y | y
    · have := hD x y; omega
    · have := b.ge x y; omega
  have ok : (SV.w hh.size h2.size i s bs).Ok h3 (fun b => D b ∨ R b) :=
    ⟨(n3.fr.rd (by omega) fun x => x).trans n2.rd, n3.rd, ⟨by omega, no _ (Nat.le_refl _)⟩, ⟨by omega, no _ (by omega)⟩, StrAt.fr F B fun _ _ x => x, fun p e => ⟨by have := (hs p e).1; omega, (hs p e).2⟩⟩
  obtain ⟨a, c, er, sl⟩ := b3.row
  exact ⟨a, _, c, rdc er rfl, append_one (x := .w hh.size h2.size i s bs) b3 hD ok rfl hl rfl rfl (Nat.le_of_ble_eq_true rfl) (fun h6 R' f g b6 => hK h6 R' _ _ ((F.mono fun _ _ x => x.elim).trans f fun _ _ x => x) (fun y hy => (g y hy).imp id fun q => by omega) b6) _ _ _ (rdc er rfl)⟩
theorem steps_flush_spec {n0 : Nat} {D : Nat → Prop} {hh : Heap} {sb : Nat} {R : Nat → Prop} {xs : List SV} {K : Value → Heap → Prop} (b : Bd n0 D hh sb R xs) (hD : ∀ b, D b → b < n0) (hl : xs.length < 1000000)
    (hK : ∀ h' R', Fr R hh h' → (∀ b, R' b → R b ∨ hh.size ≤ b) → Bd n0 D h' sb R' (xs ++ [.f]) → K (.tuple #[]) h') : C.wal_steps_flush (some ⟨sb, 0, none⟩) hh K := by
  obtain ⟨a, c, er, sl⟩ := b.row
  exact wal_steps_flush.ok (os ⟨a, _, c, rdc er rfl, append_one (x := .f) b hD trivial rfl hl rfl rfl (Nat.le_of_ble_eq_true rfl) (fun h6 R' f g b6 => hK h6 R' f g b6) _ _ _ (rdc er rfl)⟩)
/-! blocks that are to be written -/
abbrev Rs := List (Int × Sc × Tm.Txt)
def nb (rs : Rs) : Nb := rs.map fun r => (r.1, r.2.2)
def cellsR (r : Int × Sc × Tm.Txt) : List Value := [.int .i64 r.1, r.2.1.v]
theorem cellsR_one (r : Int × Sc × Tm.Txt) : ∀ v ∈ cellsR r, v.oneCell' = true := by
  intro v hv
  rcases List.mem_cons.mp hv with rfl | hv
  · rfl
  · rw [List.mem_singleton.mp hv]; rfl
structure Bl (h : Heap) (F : Nat → Prop) (a : Option Addr) (rs : Rs) : Prop where
  cells : SlCells h a (rs.flatMap cellsR)
  ab : ∀ p, a = some p → p.block < h.size ∧ ¬ F p.block
  ok : ∀ r ∈ rs, StrAt h r.2.1.a r.2.1.l r.2.2 ∧ ∀ p, r.2.1.a = some p → p.block < h.size ∧ ¬ F p.block
theorem Bl.fr {h h' : Heap} {F G F' : Nat → Prop} {a : Option Addr} {rs : Rs} (b : Bl h F a rs) (f : Fr G h h') (hG : ∀ x, x < h.size → G x → F x) (hF : ∀ x, x < h.size → F' x → F x) : Bl h' F' a rs :=
  ⟨SlCells.fr f b.cells fun p e x => (b.ab p e).2 (hG _ (b.ab p e).1 x), fun p e => ⟨Nat.lt_of_lt_of_le (b.ab p e).1 f.size, fun x => (b.ab p e).2 (hF _ (b.ab p e).1 x)⟩,
    fun r hr => ⟨StrAt.fr f (b.ok r hr).1 fun p e x => ((b.ok r hr).2 p e).2 (hG _ ((b.ok r hr).2 p e).1 x), fun p e => ⟨Nat.lt_of_lt_of_le ((b.ok r hr).2 p e).1 f.size, fun x => ((b.ok r hr).2 p e).2 (hF _ ((b.ok r hr).2 p e).1 x)⟩⟩⟩
theorem Bl.no {h h' : Heap} {F : Nat → Prop} {a : Option Addr} {rs : Rs} (b : Bl h F a rs) (f : Fr No h h') : Bl h' F a rs := b.fr f (fun _ _ x => x.elim) fun _ _ x => x
theorem Bl.get {h : Heap} {F : Nat → Prop} {a : Option Addr} {rs : Rs} (b : Bl h F a rs) {i : Nat} (hi : i < rs.length) : ∃ p, a = some p ∧ Cells h (p.add (i * 2)) (cellsR rs[i]) := by
  have c := b.cells
  have hw : ∀ r ∈ rs, (cellsR r).length = 2 := fun _ _ => rfl
  have hl := flat_length cellsR 2 rs hw
  have hp := flat_part cellsR 2 rs hw i hi
  have h2 : (cellsR rs[i]).length = 2 := rfl
  cases a with
  | none =>
    have c : rs.flatMap cellsR = [] := c
    rw [c] at hl
    exact absurd hl (by simp; omega)
  | some p =>
    refine ⟨p, rfl, ?_⟩
    have := (Cells.take (Cells.drop c (i * 2)) 2)
    rw [hp] at this
    exact this
theorem Bd.grow {n0 : Nat} {D R R' : Nat → Prop} {hh h' : Heap} {a : Option Addr} {rs : Rs} (B : Bl hh (fun b => D b ∨ R b) a rs) (f : Fr R hh h') (g : ∀ b, R' b → R b ∨ hh.size ≤ b) : Bl h' (fun b => D b ∨ R' b) a rs :=
  B.fr f (fun _ _ x => .inr x) fun y hy x => x.imp id fun z => (g y z).elim id fun q => by omega
theorem ws_snoc (l : Nb) (p : Int × List UInt8) : ws (l ++ [p]) = ws l ++ [.w p.1 p.2] := List.map_append
theorem home_spec {n0 : Nat} {D : Nat → Prop} {hh : Heap} {sb : Nat} {R : Nat → Prop} {xs : List SV} {a : Option Addr} {c : Nat} {rs : Rs} {K : Value → Heap → Prop} (b : Bd n0 D hh sb R xs) (hD : ∀ b, D b → b < n0) (B : Bl hh (fun b => D b ∨ R b) a rs) (hl : xs.length + rs.length < 100000)
    (hK : ∀ h' R' ys, Fr R hh h' → (∀ b, R' b → R b ∨ hh.size ≤ b) → Bd n0 D h' sb R' (xs ++ ys) → ys.map SV.stp = homeS (nb rs) → ys.length = rs.length + 3 → K (.tuple #[]) h') : C.wal_steps_home (some ⟨sb, 0, none⟩) a rs.length c hh K := by
  refine wal_steps_home.ok ⟨fun n h2 => 0 ≤ n ∧ n ≤ rs.length ∧ ∃ R' ys, Fr R hh h2 ∧ (∀ b, R' b → R b ∨ hh.size ≤ b) ∧ Bd n0 D h2 sb R' (xs ++ ys) ∧ ys.map SV.stp = ws (nb (rs.take n.toNat)) ∧ ys.length = n.toNat,
    fun n _ => ((rs.length : Int) - n).toNat, ⟨by omega, by omega, R, [], Fr.refl _ _, fun b hb => .inl hb, by rw [List.append_nil]; exact b, rfl, rfl⟩, ?_⟩
  rintro n h2 ⟨n0', n1, R', ys, f, g, b2, e, el⟩
  have z2 := f.size
  refine cd (fun hn => ?_) fun hn => ?_
  · have hn' : n.toNat < rs.length := by omega
    have B2 := Bd.grow (n0 := n0) B f g
    obtain ⟨p, rfl, cc⟩ := B2.get hn'
    refine ⟨⟨n0', hn⟩, os ⟨_, rfl, cc, NewRow.intro rfl (cellsR_one _) rfl fun h4 n4 => ⟨_, rda n4.rd rfl, rs[n.toNat].2.1.a, rs[n.toNat].2.1.l, rs[n.toNat].2.1.c, rda n4.rd rfl, ?_⟩⟩⟩
    have b4 := b2.no n4.fr fun x hx => by have := hD x hx; have := b2.ge sb b2.rsb; omega
    have B4 := B2.no n4.fr
    have z4 := n4.size
    obtain ⟨k1, k2⟩ := B4.ok rs[n.toNat] (List.getElem_mem hn')
    refine steps_write_spec b4 hD k1 k2 (by rw [List.length_append]; omega) fun h5 R5 ib bb f5 g5 b5 => ⟨rfl, ?_⟩
    rw [wrap_i64 (by omega) (by omega)]
    refine ⟨⟨by omega, by omega, R5, ys ++ [.w ib bb rs[n.toNat].1 rs[n.toNat].2.1 rs[n.toNat].2.2], (f.new n4).trans f5 fun x hx y => (g x y).elim id fun q => by omega, fun x hx => ?_, by rw [List.append_assoc] at b5; exact b5, ?_, ?_⟩, falls hn⟩
    · rcases g5 x hx with q | q
      · exact g x q
      · exact .inr (by omega)
    · rw [show (n + 1).toNat = n.toNat + 1 by omega, take_snoc _ _ hn', List.map_append, e]
      unfold nb
      rw [List.map_append]
      exact (ws_snoc (List.map (fun r : Int × Sc × Tm.Txt => (r.1, r.2.2)) (rs.take n.toNat)) (rs[n.toNat].1, rs[n.toNat].2.2)).symm
    · rw [List.length_append, el, List.length_singleton]; omega
  · have en : rs.take n.toNat = rs := List.take_of_length_le (by omega)
    rw [en] at e
    refine steps_flush_spec b2 hD (by rw [List.length_append]; omega) fun h6 R6 f6 g6 b6 => ⟨rfl, Hd.Empty_spec fun h7 n7 => ⟨_, _, _, rfl, ?_⟩⟩
    have z6 := f6.size
    have z7 := n7.size
    have lt6 := b6.own.lt
    have b7 := b6.no n7.fr fun x hx => by have := hD x hx; have := b6.ge sb b6.rsb; omega
    refine steps_write_spec (s := ⟨some ⟨h6.size, 0, none⟩, 512, 512⟩) (bs := Hd.zeros 512) b7 hD (strAll n7.rd (Hd.zeros_length 512)) (fun p e => by
        cases e
        refine ⟨by show h6.size < h7.size; omega, fun y => ?_⟩
        rcases y with y | y
        · have := hD h6.size y; have := b6.ge sb b6.rsb; omega
        · have := b6.ge h6.size y; omega) (by rw [List.length_append, List.length_append, List.length_singleton]; omega) fun h8 R8 ib bb f8 g8 b8 => ⟨rfl, ?_⟩
    have z8 := f8.size
    refine steps_flush_spec b8 hD (by simp only [List.length_append, List.length_singleton]; omega) fun h9 R9 f9 g9 b9 => ⟨rfl, ?_⟩
    have G6 : ∀ x, R6 x → R x ∨ hh.size ≤ x := fun x hx => (g6 x hx).elim (g x) fun q => .inr (by omega)
    have G8 : ∀ x, R8 x → R x ∨ hh.size ≤ x := fun x hx => (g8 x hx).elim (G6 x) fun q => .inr (by omega)
    have G9 : ∀ x, R9 x → R x ∨ hh.size ≤ x := fun x hx => (g9 x hx).elim (G8 x) fun q => .inr (by omega)
    have st : ∀ {T : Nat → Prop}, (∀ x, T x → R x ∨ hh.size ≤ x) → ∀ x, x < hh.size → T x → R x := fun G x hx y => (G x y).elim id fun q => by omega
    refine hK h9 R9 (ys ++ [.f, .w ib bb 1 ⟨some ⟨h6.size, 0, none⟩, 512, 512⟩ (Hd.zeros 512), .f]) ((((f.trans f6 (st g)).new n7).trans f8 (st G6)).trans f9 (st G8)) G9 ?_ ?_ ?_
    · rw [List.append_assoc, List.append_assoc, List.append_assoc] at b9; exact b9
    · rw [List.map_append, e]; rfl
    · rw [List.length_append, el]; show n.toNat + 3 = _; omega
/-! may -/
theorem may_spec {F : Nat → Prop} {hh : Heap} {a : Option Addr} {c : Nat} {rs : Rs} {n : Int} {K : Value → Heap → Prop} (B : Bl hh F a rs) (hl : rs.length < 1000000)
    (hK : ∀ h', Fr No hh h' → K (.bool (mayW (nb rs) n)) h') : C.wal_may a rs.length c n hh K := by
  unfold mayW at hK
  refine wal_may.ok ⟨fun last k h2 => 0 ≤ k ∧ k ≤ rs.length ∧ Fr No hh h2 ∧ Hd.okGo n 97 ((nb rs).map (·.1)) = Hd.okGo n last ((nb (rs.drop k.toNat)).map (·.1)),
    fun _ k _ => ((rs.length : Int) - k).toNat, ⟨by omega, by omega, Fr.refl _ _, rfl⟩, ?_⟩
  rintro last k h2 ⟨k0, k1, f, e⟩
  refine cd (fun hk => ?_) fun hk => ?_
  · have hk' : k.toNat < rs.length := by omega
    obtain ⟨p, rfl, cc⟩ := (B.no f).get hk'
    rw [List.drop_eq_getElem_cons hk'] at e
    have e : Hd.okGo n 97 ((nb rs).map (·.1)) = (!(decide (rs[k.toNat].1 ≤ last) || decide (rs[k.toNat].1 ≥ n)) && Hd.okGo n rs[k.toNat].1 ((nb (rs.drop (k.toNat + 1))).map (·.1))) := e
    refine ⟨⟨k0, hk⟩, os ⟨_, rfl, cc, NewRow.intro rfl (cellsR_one _) rfl fun h4 n4 => ⟨_, rda n4.rd rfl, ?_⟩⟩⟩
    refine cd (fun h1 => ?_) fun h1 => ⟨_, rda n4.rd rfl, ?_⟩
    · rw [e, decide_eq_true h1] at hK; exact hK h4 (f.new n4)
    rw [decide_eq_false h1] at e
    refine cd (fun h3 => ?_) fun h3 => ⟨_, rda n4.rd rfl, ?_⟩
    · rw [e, decide_eq_true h3] at hK; exact hK h4 (f.new n4)
    rw [decide_eq_false h3] at e
    rw [wrap_i64 (by omega) (by omega)]
    exact ⟨⟨by omega, by omega, f.new n4, by rw [show (k + 1).toNat = k.toNat + 1 by omega]; exact e⟩, falls hk⟩
  · rw [List.drop_of_length_le (by omega)] at e
    have e : Hd.okGo n 97 ((nb rs).map (·.1)) = true := e
    have el : (nb rs).length = rs.length := List.length_map ..
    rw [e, el] at hK
    exact hK h2 f
theorem okGo_mono {n m : Int} (h : n ≤ m) : ∀ (l : List Int) (last : Int), Hd.okGo n last l = true → Hd.okGo m last l = true
  | [], _, _ => rfl
  | a :: r, last, e => by
    have e : (!(decide (a ≤ last) || decide (a ≥ n)) && Hd.okGo n a r) = true := e
    show (!(decide (a ≤ last) || decide (a ≥ m)) && Hd.okGo m a r) = true
    rw [Bool.and_eq_true] at e
    rw [okGo_mono h r a e.2]
    have h1 := e.1
    by_cases x : a ≤ last
    · rw [decide_eq_true x] at h1; cases h1
    · by_cases y : a ≥ n
      · rw [decide_eq_true y, Bool.or_true] at h1; cases h1
      · rw [decide_eq_false x, decide_eq_false (by omega)]; rfl
end Go.Proofs.YtpleolmalbdpnaaDoor.Wc
/-
  A COMMIT: wal.Commit.
-/
namespace Go.Proofs.YtpleolmalbdpnaaDoor.Wc
open Go Go.Proofs Go.Proofs.YtpleolmalbdpnaaDoor.Wx Go.Proofs.YtpleolmalbdpnaaDoor.Hp Go.Proofs.YtpleolmalbdpnaaDoor.W Go.Proofs.YtpleolmalbdpnaaDoor.Ad

/-- a row that grows, in blocks F of its own behind n0 -/
structure Row (n0 : Nat) (h : Heap) (F : Nat → Prop) (w : Nat) (a : Option Addr) (l c : Nat) (xs : List Value) : Prop where
  s : Sl h w a l c xs F
  ge : ∀ b, F b → n0 ≤ b ∧ b < h.size
theorem Row.nil (n0 : Nat) (h : Heap) (w : Nat) : Row n0 h No w none 0 0 [] := ⟨Sl.nil _ _ _, fun _ x => x.elim⟩
theorem Row.keep {n0 : Nat} {h h' : Heap} {F G : Nat → Prop} {w : Nat} {a : Option Addr} {l c : Nat} {xs : List Value} (r : Row n0 h F w a l c xs) (f : Fr G h h') (hG : ∀ b, F b → ¬ G b) : Row n0 h' F w a l c xs :=
  ⟨r.s.fr f fun b _ x => hG b x, fun b x => ⟨(r.ge b x).1, Nat.lt_of_lt_of_le (r.ge b x).2 f.size⟩⟩
theorem row_app {n0 : Nat} {hh : Heap} {F : Nat → Prop} {w : Nat} {a : Option Addr} {l c e : Nat} {xs vs : List Value} {elem : TI} {K : Option Addr → Nat → Nat → Heap → Prop} (r : Row n0 hh F w a l c xs) (hv : vs.length = w) (one : ∀ v ∈ vs, v.oneCell' = true)
    (hz : elem.zero.length = elem.cells) (hc : elem.cells = w) (hby : elem.bytes ≤ 64) (hl : l < 1000000) (hn : n0 ≤ hh.size)
    (hK : ∀ a' c' h' F', Fr F hh h' → (∀ b, F' b → F b ∨ hh.size ≤ b) → Row n0 h' F' w a' (l + 1) c' (xs ++ vs) → K a' (l + 1) c' h') :
    New vs e hh fun h4 => ∃ new1 : List Value, List.length new1 = 1 * w ∧ SlCells h4 (some ⟨hh.size, 0, none⟩) new1 ∧ (∀ v ∈ new1, v.oneCell' = true) ∧ AppendP elem e a l c 1 new1 h4 K := by
  refine New.intro fun h4 n4 => ?_
  have z4 := n4.size
  refine ⟨vs, by rw [hv, Nat.one_mul], cellsAll n4.rd, one, ?_⟩
  have s4 : Sl h4 elem.cells a l c xs F := by rw [hc]; exact r.s.fr n4.fr fun _ _ _ x => x
  refine append_own s4 (by rw [hc, hv, Nat.one_mul]) hz (Nat.le_trans (Nat.mul_le_mul (show l + 1 ≤ 1000000 by omega) hby) (by decide)) (by omega) fun a' c' h5 f5 s5 => ?_
  rw [hc] at s5
  have z5 := f5.size
  refine hK a' c' h5 (fun b => (F b ∨ h4.size ≤ b) ∧ b < h5.size) ((n4.fr.mono fun _ _ x => x.elim).trans f5 fun b _ x => x) (fun b hb => hb.1.imp id fun q => by omega) ⟨?_, fun b hb => ⟨?_, hb.2⟩⟩
  · obtain ⟨q1, q2⟩ := s5
    refine ⟨q1, ?_⟩
    cases a' with
    | none => exact q2
    | some p => obtain ⟨a1, a2, a3, a4⟩ := q2; exact ⟨a1, ⟨a2, a3.lt⟩, a3, a4⟩
  · rcases hb.1 with q | q
    · exact (r.ge b q).1
    · omega
theorem SV.Ok.weak {h : Heap} {D E : Nat → Prop} {x : SV} (a : x.Ok h D) (hE : ∀ b, E b → D b) : x.Ok h E := by
  cases x with
  | f => trivial
  | w ib bb i s b =>
    obtain ⟨a1, a2, a3, a4, a5, a6⟩ := a
    exact ⟨a1, a2, ⟨a3.1, fun y => a3.2 (hE _ y)⟩, ⟨a4.1, fun y => a4.2 (hE _ y)⟩, a5, fun p e => ⟨(a6 p e).1, fun y => (a6 p e).2 (hE _ y)⟩⟩
def hsc (r : Int × Sc × Tm.Txt) : Hd.Sc := ⟨r.2.1.a, r.2.1.l, r.2.1.c⟩
theorem commit_steps {n0 : Nat} {D : Nat → Prop} {d : Option Addr} {hh : Heap} {sb : Nat} {R : Nat → Prop} {S : RD} {xs : List SV} {K : Value → Heap → Prop} (b : Bd n0 D hh sb R xs) (hD : ∀ b, D b → b < n0) (A : DiskF hh D d S) (hp : S.pend.length + xs.length < 1000000000) (ht : S.tape.length + xs.length < 1000000000)
    (hK : ∀ h' D', Fr D hh h' → Gw hh D h' D' → DiskF h' D' d (runS (xs.map SV.stp) S).1 → K (.int .i64 (runS (xs.map SV.stp) S).2) h') :
    ∃ (sA6 : Option Addr) (sL6 : Nat) (sC6 : Nat), cellOf hh ⟨sb, 0, none⟩ = some (.slice sA6 sL6 sC6) ∧ C.wal_steps_do sA6 sL6 sC6 d hh fun r10 h22 => ∃ (n6 : Int), r10 = .int .i64 n6 ∧ K (.int .i64 n6) h22 := by
  obtain ⟨a, c, e, s⟩ := b.row
  refine ⟨a, _, c, rdc e rfl, do_spec A (fun x hx => (b.ok x hx).weak fun _ y => .inl y) s.cells (fun p e => ?_) hp ht fun h' D' f g A' => ⟨_, rfl, hK h' D' f g A'⟩⟩
  subst e
  obtain ⟨_, _, q, o, _⟩ := s
  exact ⟨o.lt, fun y => by have := hD _ y; have := (b.ge _ q.1).1; omega⟩
theorem logs_take (l : Nb) {n : Nat} (h : n < l.length) : ws ((logL l).take (n + 1)) = ws ((logL l).take n) ++ [.w (2 + (n : Int)) l[n].2] := by
  rw [take_snoc _ _ (by rw [logL_length]; exact h), ws_snoc, logL_get]
theorem nb_get (rs : Rs) {n : Nat} (h : n < rs.length) : (nb rs)[n]'(by unfold nb; rw [List.length_map]; exact h) = (rs[n].1, rs[n].2.2) := List.getElem_map ..
theorem Commit_spec {D : Nat → Prop} {d : Option Addr} {hh : Heap} {S : RD} {a : Option Addr} {c : Nat} {rs : Rs} {K : Value → Heap → Prop} (G : Re.Glo hh) (A : DiskF hh D d S) (B : Bl hh D a rs) (hl : rs.length < 10000) (hp : S.pend.length < 100000000) (ht : S.tape.length < 100000000)
    (hK : ∀ h' D', Fr D hh h' → Gw hh D h' D' → DiskF h' D' d (wal S (nb rs)).1 → K (.int .i64 (wal S (nb rs)).2) h') : C.wal_Commit d a rs.length c hh K := by
  have hDl : ∀ b, D b → b < hh.size := fun b x => A.lt x
  have same : ∀ {h'}, Fr No hh h' → Fr D hh h' ∧ Gw hh D h' D ∧ DiskF h' D d S := fun f => ⟨f.mono fun _ _ x => x.elim, Gw.refl f.size hDl, A.no f⟩
  have el : (nb rs).length = rs.length := List.length_map ..
  unfold wal at hK
  refine wal_Commit.ok (ce (fun h0 => ?_) fun h0 => ?_)
  · have e : nb rs = [] := List.eq_nil_of_length_eq_zero (by rw [el]; omega)
    rw [if_pos e] at hK
    obtain ⟨x, y, z⟩ := same (Fr.refl No hh)
    exact hK hh D x y z
  have hne : nb rs ≠ [] := fun e => by rw [e] at el; have : (0 : Nat) = rs.length := el; omega
  rw [if_neg hne] at hK
  refine DiskF.blocks A ⟨_, rfl, may_spec B (by omega) fun h3 f3 => ⟨_, rfl, cnot (cs (fun hm => ?_) fun hm => ?_)⟩⟩
  rotate_left
  · rw [if_pos hm] at hK
    obtain ⟨x, y, z⟩ := same f3
    exact hK h3 D x y z
  rw [if_neg (by rw [hm]; simp)] at hK
  have z3 := f3.size
  have toNo : ∀ {h'}, Fr (From hh.size) hh h' → Fr No hh h' := fun f => f.mono fun b hb x => by have x : hh.size ≤ b := x; omega
  refine ⟨fun na nl nc da dl dc n h => 0 ≤ n ∧ n ≤ rs.length ∧ nl = n.toNat ∧ dl = n.toNat ∧ Fr No hh h ∧ ∃ F1 F2 : Nat → Prop, Row hh.size h F1 1 na nl nc (Hd.ints ((rs.take n.toNat).map (·.1))) ∧ Row hh.size h F2 1 da dl dc ((rs.take n.toNat).map fun r => (hsc r).v) ∧ ∀ b, F1 b → ¬ F2 b,
    fun _ _ _ _ _ _ n _ => ((rs.length : Int) - n).toNat, ⟨by omega, by omega, rfl, rfl, f3, No, No, Row.nil _ _ _, Row.nil _ _ _, fun b x => x.elim⟩, ?_⟩
  rintro na nl nc da dl dc n h4 ⟨n0, n1, rfl, rfl, f4, F1, F2, r1, r2, dj⟩
  have z4 := f4.size
  refine cd (fun hn => ?_) fun hn => ?_
  · have hn' : n.toNat < rs.length := by omega
    obtain ⟨p, rfl, cc⟩ := (B.no f4).get hn'
    refine ⟨⟨n0, hn⟩, os ⟨_, rfl, cc, NewRow.intro rfl (cellsR_one _) rfl fun h6 n6 => ⟨_, rda n6.rd rfl, ?_⟩⟩⟩
    have z6 := n6.size
    have r1' := r1.keep n6.fr fun _ _ x => x
    have r2' := r2.keep n6.fr fun _ _ x => x
    refine row_app r1' rfl (fun v hv => by rw [List.mem_singleton.mp hv]; rfl) rfl rfl (Nat.le_of_ble_eq_true rfl) (by omega) (by omega) fun na' nc' h8 F1' f8 g8 r1'' => ?_
    have z8 := f8.size
    have r68 : rd h8 h4.size = cellsR rs[n.toNat] := (f8.rd (by omega) fun x => by have := r1.ge _ x; omega).trans n6.rd
    refine ⟨rs[n.toNat].2.1.a, rs[n.toNat].2.1.l, rs[n.toNat].2.1.c, rda r68 rfl, ?_⟩
    have r2'' := r2'.keep f8 fun b x y => dj b y x
    refine row_app r2'' rfl (fun v hv => by rw [List.mem_singleton.mp hv]; rfl) rfl rfl (Nat.le_of_ble_eq_true rfl) (by omega) (by omega) fun da' dc' h10 F2' f10 g10 r2''' => ?_
    rw [wrap_i64 (by omega) (by omega)]
    have en : (n + 1).toNat = n.toNat + 1 := by omega
    refine ⟨⟨by omega, by omega, en.symm, en.symm, ?_, F1', F2', ?_, ?_, ?_⟩, falls hn⟩
    · have q1 : Fr No hh h8 := (f4.new n6).trans f8 fun b hb x => by have := r1.ge b x; omega
      exact q1.trans f10 fun b hb x => by have := r2.ge b x; omega
    · have := r1''.keep f10 fun b x y => by
        rcases g8 b x with q | q
        · exact dj b q y
        · have := (r2.ge b y).2; omega
      rw [en, take_snoc _ _ hn', List.map_append]
      unfold Hd.ints at this ⊢
      rw [List.map_append]; exact this
    · rw [en, take_snoc _ _ hn', List.map_append]; exact r2'''
    · intro b x y
      rcases g10 b y with q | q
      · rcases g8 b x with q' | q'
        · exact dj b q' q
        · have := (r2.ge b q).2; omega
      · have := (r1''.ge b x).2; omega
  have et : rs.take n.toNat = rs := List.take_of_length_le (by omega)
  rw [et] at r1 r2
  have ln : n.toNat = rs.length := by omega
  have elm : (rs.map (·.1)).length = n.toNat := by rw [List.length_map, ln]
  have hmay : Hd.okGo S.lasts.length 97 (rs.map (·.1)) = true ∧ rs.length ≤ 96 := by
    unfold mayW at hm
    rw [Bool.and_eq_true] at hm
    have h1 := hm.1
    have h2 := of_decide_eq_true hm.2
    rw [el] at h2
    unfold nb at h1
    rw [List.map_map] at h1
    exact ⟨h1, by omega⟩
  have hmm : Hd.mayM (rs.map (·.1)) 16384 = true := by
    unfold Hd.mayM
    rw [okGo_mono (by have := A.max.1; omega) _ _ hmay.1, decide_eq_true (by rw [elm]; omega), decide_eq_true (by rw [elm]; omega)]; rfl
  have Dt : Hd.Dat h4 da n.toNat (rs.map hsc) (rs.map (·.2.2)) := by
    refine ⟨?_, by rw [List.length_map, ln], by rw [List.length_map, List.length_map], fun i h1 h2 => ?_⟩
    · rw [List.map_map]; exact r2.s.cells
    · rw [List.getElem_map, List.getElem_map]
      rw [List.length_map] at h1
      exact StrAt.fr f4 (B.ok _ (List.getElem_mem h1)).1 fun _ _ x => x
  have eall : ((nb rs).map (·.2)).all (fun d => d.length == 512) = Hd.blM (rs.map (·.2.2)) ((rs.map (·.1)).length) := by
    unfold Hd.blM nb
    rw [List.map_map, List.length_map, List.length_map, beq_self_eq_true, Bool.and_true]; rfl
  rw [eall] at hK
  refine Hd.Make_spec (G.no f4) r1.s.cells elm (by omega) Dt (by omega) (fun x => absurd (hmm.symm.trans x) (by simp)) (fun _ hb h11 f11 => ⟨_, _, _, _, rfl, ?_⟩) fun _ hb hb0 h11 f11 hbb s11 => ⟨_, _, _, _, rfl, ?_⟩
  · rw [if_pos hb] at hK
    obtain ⟨x, y, z⟩ := same (f4.no f11)
    exact cn (fun _ => hK h11 D x y z) fun x => absurd x (by decide)
  rw [if_neg (by rw [hb]; simp)] at hK
  have F11 := f4.no f11
  have z11 := f11.size
  refine cn (fun x => absurd rfl x) fun _ => DiskF.down (A.no F11) ⟨_, rfl, cs (fun hd => ?_) fun hd => ?_⟩
  · rw [if_pos hd] at hK
    obtain ⟨x, y, z⟩ := same F11
    exact hK h11 D x y z
  rw [if_neg (by rw [hd]; simp)] at hK
  refine New.intro fun h13 n13 => ?_
  have F13 := F11.new n13
  have z13 := n13.size
  have b13 : Bd h11.size D h13 h11.size (fun b => b = h11.size) [] :=
    ⟨rfl, fun b e => ⟨by omega, by omega⟩, n13.own, ⟨none, 0, n13.rd, Sl.nil _ _ _⟩, fun x hx => absurd hx List.not_mem_nil⟩
  have hD : ∀ b, D b → b < h11.size := fun b x => by have := hDl b x; omega
  have ehd : hdrOf (nb rs) = Hd.laidM (rs.map (·.1)) (Hd.sumM (Hd.laidM (rs.map (·.1)) 0) (rs.map (·.2.2))).toNat := by
    unfold hdrOf nb
    rw [List.map_map, List.map_map]; rfl
  rw [← ehd] at s11
  have lhd : (hdrOf (nb rs)).length = 512 := by have := s11.1; rw [List.length_map] at this; omega
  have sh : StrAt h13 (some ⟨hb0, 0, none⟩) 512 (hdrOf (nb rs)) := StrAt.fr n13.fr s11.str fun _ _ x => x
  have bl13 : Bl h13 (fun b => D b ∨ b = h11.size) a rs := B.fr F13 (fun _ _ x => x.elim) fun x hx y => y.elim id fun e => by omega
  have hbl : hb0 < h11.size := by obtain ⟨_, _, _, o, _⟩ := s11; exact o.lt
  refine ⟨fun n h => 0 ≤ n ∧ n ≤ rs.length ∧ ∃ R ys, Fr (fun b => b = h11.size) h13 h ∧ (∀ b, R b → b = h11.size ∨ h13.size ≤ b) ∧ Bd h11.size D h h11.size R ys ∧ ys.map SV.stp = ws ((logL (nb rs)).take n.toNat) ∧ ys.length = n.toNat,
    fun n _ => ((rs.length : Int) - n).toNat, ⟨by omega, by omega, _, [], Fr.refl _ _, fun b x => .inl x, b13, rfl, rfl⟩, ?_⟩
  rintro m h14 ⟨m0, m1, R, ys, f14, g14, b14, e14, l14⟩
  have z14 := f14.size
  have B14 := Bd.grow (n0 := h11.size) bl13 f14 g14
  refine cd (fun hn => ?_) fun hn => ?_
  · have hn' : m.toNat < rs.length := by omega
    obtain ⟨p, rfl, cc⟩ := B14.get hn'
    refine ⟨⟨m0, hn⟩, os ⟨_, rfl, cc, NewRow.intro rfl (cellsR_one _) rfl fun h16 n16 => ⟨rs[m.toNat].2.1.a, rs[m.toNat].2.1.l, rs[m.toNat].2.1.c, rda n16.rd rfl, ?_⟩⟩⟩
    have z16 := n16.size
    have b16 := b14.no n16.fr fun x hx => by have := hD x hx; omega
    obtain ⟨k1, k2⟩ := (B14.no n16.fr).ok rs[m.toNat] (List.getElem_mem hn')
    rw [wrap_i64 (n := 2 + m) (by omega) (by omega)]
    refine steps_write_spec b16 hD k1 k2 (by omega) fun h17 R17 ib bb f17 g17 b17 => ⟨rfl, ?_⟩
    rw [wrap_i64 (by omega) (by omega)]
    refine ⟨⟨by omega, by omega, R17, _, (f14.new n16).trans f17 fun x hx y => (g14 x y).elim id fun q => by omega, fun x hx => ?_, b17, ?_, ?_⟩, falls hn⟩
    · rcases g17 x hx with q | q
      · exact g14 x q
      · exact .inr (by omega)
    · rw [show (m + 1).toNat = m.toNat + 1 by omega, logs_take _ (by rw [el]; exact hn'), List.map_append, e14, nb_get _ hn', show ((m.toNat : Nat) : Int) = m by omega]; rfl
    · rw [List.length_append, l14, List.length_singleton]; omega
  have e14' : ys.map SV.stp = ws (logL (nb rs)) := by rw [e14, List.take_of_length_le (by rw [logL_length, el]; omega)]
  refine steps_flush_spec b14 hD (by omega) fun h18 R18 f18 g18 b18 => ⟨rfl, ?_⟩
  have z18 := f18.size
  have G18 : ∀ x, R18 x → x = h11.size ∨ h13.size ≤ x := fun x hx => (g18 x hx).elim (g14 x) fun q => .inr (by omega)
  have st : ∀ {T : Nat → Prop}, (∀ x, T x → x = h11.size ∨ h13.size ≤ x) → ∀ x, x < h13.size → T x → x = h11.size := fun G x hx y => (G x y).elim id fun q => by omega
  have F18 : Fr (fun b => b = h11.size) h13 h18 := f14.trans f18 (st g14)
  have hr : ∀ {T : Nat → Prop}, (∀ x, T x → x = h11.size ∨ h13.size ≤ x) → ¬ T hb0 := fun G x => by
    rcases G _ x with q | q <;> omega
  refine steps_write_spec (s := ⟨some ⟨hb0, 0, none⟩, 512, 512⟩) (bs := hdrOf (nb rs)) b18 hD (StrAt.fr F18 sh fun p e => by cases e; show ¬ hb0 = h11.size; omega) (fun p e => by
      cases e
      refine ⟨by show hb0 < h18.size; omega, fun y => ?_⟩
      rcases y with y | y
      · have y : D hb0 := y
        have := hDl _ y
        omega
      · exact hr G18 y) (by rw [List.length_append, List.length_singleton]; omega) fun h19 R19 ib bb f19 g19 b19 => ⟨rfl, ?_⟩
  have z19 := f19.size
  have G19 : ∀ x, R19 x → x = h11.size ∨ h13.size ≤ x := fun x hx => (g19 x hx).elim (G18 x) fun q => .inr (by omega)
  have F19 := F18.trans f19 (st G18)
  refine steps_flush_spec b19 hD (by simp only [List.length_append, List.length_singleton]; omega) fun h20 R20 f20 g20 b20 => ⟨rfl, ?_⟩
  have z20 := f20.size
  have G20 : ∀ x, R20 x → x = h11.size ∨ h13.size ≤ x := fun x hx => (g20 x hx).elim (G19 x) fun q => .inr (by omega)
  have F20 := F19.trans f20 (st G19)
  have B20 := Bd.grow (n0 := h11.size) bl13 F20 G20
  refine home_spec b20 hD B20 (by simp only [List.length_append, List.length_singleton]; omega) fun h21 R21 zs f21 g21 b21 ez lz => ⟨rfl, ?_⟩
  have G21 : ∀ x, R21 x → x = h11.size ∨ h13.size ≤ x := fun x hx => (g21 x hx).elim (G20 x) fun q => .inr (by omega)
  have F21 := F20.trans f21 (st G20)
  have F21' : Fr No hh h21 := (F13.mono fun _ _ x => x.elim).trans F21 fun x hx e => by have e : x = h11.size := e; omega
  have est : (ys ++ [SV.f] ++ [SV.w ib bb 1 ⟨some ⟨hb0, 0, none⟩, 512, 512⟩ (hdrOf (nb rs))] ++ [SV.f] ++ zs).map SV.stp = commitS (nb rs) (hdrOf (nb rs)) := by
    rw [List.map_append, ez]
    unfold commitS
    congr 1
    simp only [List.map_append, e14', List.append_assoc]; rfl
  have elen : (ys ++ [SV.f] ++ [SV.w ib bb 1 ⟨some ⟨hb0, 0, none⟩, 512, 512⟩ (hdrOf (nb rs))] ++ [SV.f] ++ zs).length ≤ 20010 := by
    simp only [List.length_append, List.length_singleton, l14, lz]; omega
  refine commit_steps b21 hD (A.no F21') (by omega) (by omega) fun h' D' f g A' => ?_
  rw [est] at A'
  rw [est]
  exact hK h' D' (F21'.mono (fun _ _ x => x.elim) |>.trans f fun _ _ x => x) ⟨fun b hb => (g.old b (by have := F21'.size; omega)), g.lt⟩ A'
end Go.Proofs.YtpleolmalbdpnaaDoor.Wc
