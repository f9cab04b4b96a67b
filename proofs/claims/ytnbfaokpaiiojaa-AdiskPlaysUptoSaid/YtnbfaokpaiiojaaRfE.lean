/-
  BOTH DISKS, plainly: what adisk holds is what the document's disk was told.
-/
import Derived.Test.YtnbfaokpaiiojaaRfD
namespace Go.Proofs.Ytnbfaokpaiiojaa.Rf
open Go Go.Proofs Go.Proofs.Ytnbfaokpaiiojaa.Wx Go.Proofs.Ytnbfaokpaiiojaa.Hp Go.Proofs.Ytnbfaokpaiiojaa.W Go.Proofs.Ytnbfaokpaiiojaa.Ad Go.Proofs.Ytnbfaokpaiiojaa.L3

theorem replay_snoc (D : RD) (ts : List Tt) (t : Tt) : replay D (ts ++ [t]) = again (replay D ts) t := by unfold replay; rw [List.foldl_append]; rfl
/-- what is held of acts, none of them cut off -/
def FD.Q (S : FD) : RD := replay (Ad.fresh (chunks S.first)) S.acts
theorem again_write {D : RD} (c : L3.Calm D) {i : Int} {b : List UInt8} (h0 : 0 ≤ i) (h1 : i < D.lasts.length) (h2 : b.length = 512) : again D (1, i, b) = D.putW i b := by
  rw [again, if_neg (show ¬ ((1 : Int), i, b).1 = 2 from (by decide : ¬ (1 : Int) = 2)), RD.write, if_neg (by rw [c.down]; exact Bool.false_ne_true), if_neg (fun x => x ⟨h0, h1⟩), if_neg (fun x => x h2), RD.step, if_neg (by show ¬ 0 < D.left; rw [c.left]; omega)]
  rfl
theorem again_flush {D : RD} (c : L3.Calm D) {i : Int} {b : List UInt8} : again D (2, i, b) = RD.flushed { D with flushes := IntKind.wrap .i64 (D.flushes + 1) } := by rw [again, if_pos rfl, c.flush]
theorem replay_calm {D : RD} (N : Nat) : ∀ (ts : List Tt), L3.Calm D → D.lasts.length = N → (∀ t ∈ ts, May N t) → L3.Calm (replay D ts) ∧ (replay D ts).lasts.length = N := by
  intro ts
  induction ts generalizing D with
  | nil => intro c h _; exact ⟨c, h⟩
  | cons t r ih =>
    intro c hN hm
    have hr : ∀ t ∈ r, May N t := fun t ht => hm t (List.mem_cons_of_mem _ ht)
    have hst : replay D (t :: r) = replay (again D t) r := rfl
    rw [hst]
    obtain ⟨k, i, b⟩ := t
    rcases hm _ (List.mem_cons_self ..) with h2 | ⟨h1, e0, e1, e2⟩
    · have h2 : k = 2 := h2
      subst h2
      rw [again_flush c]
      exact ih ⟨c.down, c.left, applyTo_len _ _ c.lw c.pw, fun x hx => by simp [RD.flushed] at hx⟩ ((applyTo_length _ _).trans hN) hr
    · have h1 : k = 1 := h1
      subst h1
      rw [again_write c e0 (by rw [hN]; exact e1) e2]
      exact ih (c.putW _ e2) hN hr
theorem FD.Ok.calm {S : FD} (o : S.Ok) : L3.Calm S.Q ∧ S.Q.lasts.length = S.N :=
  replay_calm S.N S.acts (L3.Calm.fresh (chunks_len _)) (by show (chunks S.first).length = _; rw [chunks_length]; rfl) o.may
theorem FD.Ok.left {S : FD} (o : S.Ok) (keep : List Bool) : (S.Q.cut keep).lasts = leftR keep (chunks S.first) S.acts 0 :=
  left_fresh keep (chunks_len _) (by rw [chunks_length]; rfl) S.acts o.may
structure Sm (D : RD) (S : FD) : Prop where
  ok : S.Ok
  tape : D.tape = S.acts
  writes : D.writes = S.writes
  flushes : D.flushes = S.flushes
  down : D.down = S.out
  left : S.out = false → D.left = S.left
  keep : S.out = false → S.left ≠ 0 → D.keep = S.keep
  leftb : 0 ≤ S.left ∧ S.left ≤ 9223372036854775807
  len : D.lasts.length = S.N
  up : S.out = false → D.lasts = S.Q.lasts ∧ D.pend = S.Q.pend
  dn : S.out = true → D.lasts = leftR S.keep (chunks S.first) S.acts 0 ∧ D.pend = []
theorem refT_iff {N : Nat} {i : Int} {b : List UInt8} : refT (N : Nat) (1, i, b) = if ¬ (0 ≤ i ∧ i < (N : Nat)) then 31 else if b.length ≠ 512 then 32 else 0 := by
  unfold refT refusedOf
  rw [if_neg (show ¬ ((1 : Int) = 2) by decide), if_neg (show ¬ ((1 : Int) ≠ 1) by decide)]
  by_cases h1 : i < 0
  · rw [if_pos h1, if_pos (by omega)]
  · rw [if_neg h1]
    by_cases h2 : i ≥ (N : Nat)
    · rw [if_pos h2, if_pos (by omega)]
    · rw [if_neg h2]
      show (if b.length ≠ 512 then (32 : Int) else 0) = _
      rw [if_neg (show ¬ ¬ (0 ≤ i ∧ i < (N : Nat)) from fun y => y ⟨by omega, by omega⟩)]
/-- a step behind which all is held still -/
theorem sm_step {D1 : RD} {S1 : FD} {f : RD → RD} {g : FD → FD} (ho : S1.out = false) (hd : D1.down = false) (hl : D1.left = S1.left) (hb : 0 ≤ S1.left ∧ S1.left ≤ 9223372036854775807)
    (cutok : S1.left ≠ 0 → S1.left - 1 = 0 → Sm (RD.cut { D1 with left := S1.left - 1 } D1.keep) { S1 with left := S1.left - 1, out := true })
    (go : ∀ l, (l = S1.left ∨ S1.left ≠ 0 ∧ l = S1.left - 1 ∧ l ≠ 0) → Sm (f { D1 with left := l }) (g { S1 with left := l, out := false })) :
    (D1.step f).2 = (if S1.goes.2 = true then 30 else 0) ∧ Sm (D1.step f).1 (if S1.goes.2 = true then S1.goes.1 else g S1.goes.1) := by
  unfold RD.step FD.goes
  rw [hl]
  by_cases h0 : S1.left = 0
  · rw [if_neg (by omega), if_pos h0]
    have := go S1.left (.inl rfl)
    have e1 : ({ D1 with left := S1.left } : RD) = D1 := by rw [← hl]
    have e2 : ({ S1 with left := S1.left, out := false } : FD) = S1 := by rw [← ho]
    rw [e1, e2] at this
    exact ⟨rfl, this⟩
  · rw [if_pos (by omega), if_neg h0]
    by_cases h1 : S1.left - 1 = 0
    · rw [if_pos h1]
      have e : (S1.left - 1 == 0) = true := beq_iff_eq.mpr h1
      have c := cutok h0 h1
      simp only [e, if_true]
      exact ⟨by first | trivial | rfl, c⟩
    · rw [if_neg h1]
      have e : (S1.left - 1 == 0) = false := beq_eq_false_iff_ne.mpr h1
      have c := go (S1.left - 1) (.inr ⟨h0, rfl, h1⟩)
      simp only [e]
      exact ⟨by first | trivial | rfl | simp, by simpa using c⟩
theorem Sm.write {D : RD} {S : FD} (s : Sm D S) (i : Int) (b : List UInt8) : (D.write i b).2 = (S.write i b).2 ∧ Sm (D.write i b).1 (S.write i b).1 := by
  unfold RD.write FD.write
  rw [s.down, s.len, refT_iff]
  by_cases ho : S.out = true
  · rw [if_pos ho, if_pos ho]; exact ⟨rfl, s⟩
  rw [if_neg ho, if_neg ho]
  have ho : S.out = false := by simpa using ho
  by_cases hi : 0 ≤ i ∧ i < (S.N : Nat)
  rotate_left
  · rw [if_pos hi, if_pos hi, if_pos (by decide)]; exact ⟨rfl, s⟩
  have hi' : ¬ ¬ (0 ≤ i ∧ i < (S.N : Nat)) := fun y => y hi
  rw [if_neg hi', if_neg hi']
  by_cases hb : b.length = 512
  rotate_left
  · rw [if_pos hb, if_pos hb, if_pos (by decide)]; exact ⟨rfl, s⟩
  have hb' : ¬ b.length ≠ 512 := fun y => y hb
  rw [if_neg hb', if_neg hb', if_neg (show ¬ ((0 : Int) ≠ 0) from fun y => y rfl)]
  have ok1 : ∀ l o, FD.Ok { S.putW i b with left := l, out := o } := fun l o => ⟨s.ok.len, s.ok.max, fun t ht => by
    rcases List.mem_append.mp ht with ht | ht
    · exact s.ok.may t ht
    · rw [List.mem_singleton.mp ht]; exact .inr ⟨rfl, hi.1, hi.2, hb⟩⟩
  obtain ⟨c, lq⟩ := s.ok.calm
  obtain ⟨u1, u2⟩ := s.up ho
  have eQ : ∀ l o, FD.Q { S.putW i b with left := l, out := o } = S.Q.putW i b := fun l o => by
    show replay _ (S.acts ++ [(1, i, b)]) = _
    rw [replay_snoc]; exact again_write (D := S.Q) c hi.1 (by rw [show (S.Q).lasts.length = S.N from lq]; exact hi.2) hb
  have W := sm_step (D1 := D.putW i b) (S1 := S.putW i b) (f := id) (g := id) ho (s.down.trans ho) (s.left ho) s.leftb (fun h0 h1 => ?_) fun l hl => ?_
  · simpa using W
  · have lk := (ok1 (S.left - 1) true).left S.keep
    rw [eQ] at lk
    refine ⟨ok1 _ _, by show D.tape ++ _ = S.acts ++ _; rw [s.tape], by show IntKind.wrap .i64 (D.writes + 1) = _; rw [s.writes]; rfl, s.flushes, rfl, fun y => (by cases y), fun y => (by cases y), ⟨by show 0 ≤ S.left - 1; have := s.leftb; have h0 : S.left ≠ 0 := h0; omega, by show S.left - 1 ≤ _; have := s.leftb; omega⟩, by show (applyTo _ _).length = _; rw [applyTo_length]; exact s.len, fun y => (by cases y), fun _ => ⟨?_, rfl⟩⟩
    show applyTo D.lasts (chosen (D.pend ++ [(i, b)]) D.keep) = leftR S.keep (chunks S.first) (S.acts ++ [(1, i, b)]) 0
    rw [u1, u2, s.keep ho h0]
    exact lk
  · have hlb : 0 ≤ l ∧ l ≤ 9223372036854775807 := by
      have := s.leftb
      have hl : l = S.left ∨ S.left ≠ 0 ∧ l = S.left - 1 ∧ l ≠ 0 := hl
      omega
    refine ⟨ok1 _ _, by show D.tape ++ _ = S.acts ++ _; rw [s.tape], by show IntKind.wrap .i64 (D.writes + 1) = _; rw [s.writes]; rfl, s.flushes, s.down.trans ho, fun _ => rfl, fun _ h => s.keep ho ?_, hlb, s.len, fun _ => ?_, fun y => (by cases y)⟩
    · have hl : l = S.left ∨ S.left ≠ 0 ∧ l = S.left - 1 ∧ l ≠ 0 := hl
      have h : l ≠ 0 := h
      omega
    · have e := eQ l false
      rw [show FD.Q (id { S.putW i b with left := l, out := false }) = S.Q.putW i b from e]
      exact ⟨u1, by show D.pend ++ _ = S.Q.pend ++ _; rw [u2]⟩
end Go.Proofs.Ytnbfaokpaiiojaa.Rf
