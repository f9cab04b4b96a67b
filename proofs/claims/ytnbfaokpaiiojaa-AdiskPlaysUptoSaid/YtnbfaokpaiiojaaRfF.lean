/-
  BOTH DISKS, plainly: flushes, power cuts, what is read.
-/
import Derived.Test.YtnbfaokpaiiojaaRfE
namespace Go.Proofs.Ytnbfaokpaiiojaa.Rf
open Go Go.Proofs Go.Proofs.Ytnbfaokpaiiojaa.Wx Go.Proofs.Ytnbfaokpaiiojaa.Hp Go.Proofs.Ytnbfaokpaiiojaa.W Go.Proofs.Ytnbfaokpaiiojaa.Ad Go.Proofs.Ytnbfaokpaiiojaa.L3

theorem Sm.flush {D : RD} {S : FD} (s : Sm D S) : D.flush.2 = S.flush.2 ∧ Sm D.flush.1 S.flush.1 := by
  unfold RD.flush FD.flush
  have hd : ¬ S.out = true → ¬ D.down = true := fun y => by rw [s.down]; exact y
  by_cases ho : S.out = true
  · rw [if_pos (s.down.trans ho), if_pos ho]; exact ⟨rfl, s⟩
  rw [if_neg (hd ho), if_neg ho]
  have ho : S.out = false := by simpa using ho
  obtain ⟨c, lq⟩ := s.ok.calm
  obtain ⟨u1, u2⟩ := s.up ho
  have W := sm_step (D1 := { D with flushes := IntKind.wrap .i64 (D.flushes + 1) }) (S1 := { S with flushes := IntKind.wrap .i64 (S.flushes + 1) }) (f := RD.flushed) (g := fun S => { S with acts := S.acts ++ [(2, 0, [])] }) ho (s.down.trans ho) (s.left ho) s.leftb (fun h0 h1 => ?_) fun l hl => ?_
  · obtain ⟨W1, W2⟩ := W
    refine ⟨W1.trans ?_, ?_⟩
    · split <;> rfl
    · refine cast ?_ W2
      congr 1
      split <;> rfl
  · have lk := s.ok.left S.keep
    refine ⟨⟨s.ok.len, s.ok.max, s.ok.may⟩, s.tape, s.writes, by show IntKind.wrap .i64 (D.flushes + 1) = _; rw [s.flushes], rfl, fun y => (by cases y), fun y => (by cases y), ⟨by show 0 ≤ S.left - 1; have := s.leftb; have h0 : S.left ≠ 0 := h0; omega, by show S.left - 1 ≤ _; have := s.leftb; omega⟩, by show (applyTo _ _).length = _; rw [applyTo_length]; exact s.len, fun y => (by cases y), fun _ => ⟨?_, rfl⟩⟩
    show applyTo D.lasts (chosen D.pend D.keep) = leftR S.keep (chunks S.first) S.acts 0
    rw [u1, u2, s.keep ho h0]
    exact lk
  · have hlb : 0 ≤ l ∧ l ≤ 9223372036854775807 := by
      have := s.leftb
      have hl : l = S.left ∨ S.left ≠ 0 ∧ l = S.left - 1 ∧ l ≠ 0 := hl
      omega
    have eQ : replay (Ad.fresh (chunks S.first)) (S.acts ++ [(2, 0, [])]) = RD.flushed { S.Q with flushes := IntKind.wrap .i64 (S.Q.flushes + 1) } := by rw [replay_snoc]; exact again_flush (D := S.Q) c
    refine ⟨⟨s.ok.len, s.ok.max, fun t ht => ?_⟩, by show D.tape ++ _ = S.acts ++ _; rw [s.tape], s.writes, by show IntKind.wrap .i64 (D.flushes + 1) = _; rw [s.flushes], s.down.trans ho, fun _ => rfl, fun _ h => s.keep ho ?_, hlb, by show (applyTo _ _).length = _; rw [applyTo_length]; exact s.len, fun _ => ?_, fun y => (by cases y)⟩
    · rcases List.mem_append.mp ht with ht | ht
      · exact s.ok.may t ht
      · rw [List.mem_singleton.mp ht]; exact .inl rfl
    · have hl : l = S.left ∨ S.left ≠ 0 ∧ l = S.left - 1 ∧ l ≠ 0 := hl
      have h : l ≠ 0 := h
      omega
    · show applyTo D.lasts D.pend = (replay (Ad.fresh (chunks S.first)) (S.acts ++ [(2, 0, [])])).lasts ∧ [] = (replay (Ad.fresh (chunks S.first)) (S.acts ++ [(2, 0, [])])).pend
      rw [eQ, u1, u2]
      exact ⟨rfl, rfl⟩
theorem Sm.arm {D : RD} {S : FD} (s : Sm D S) {n : Int} (hn : n ≤ 9223372036854775807) (keep : List Bool) : (D.arm n keep).2 = (S.arm n keep).2 ∧ Sm (D.arm n keep).1 (S.arm n keep).1 := by
  unfold RD.arm FD.arm
  have hd : ¬ S.out = true → ¬ D.down = true := fun y => by rw [s.down]; exact y
  by_cases ho : S.out = true
  · rw [if_pos (s.down.trans ho), if_pos ho]; exact ⟨rfl, s⟩
  rw [if_neg (hd ho), if_neg ho]
  by_cases h : n > 0
  · rw [if_pos h, if_neg (by omega)]
    exact ⟨rfl, ⟨s.ok.len, s.ok.max, s.ok.may⟩, s.tape, s.writes, s.flushes, s.down, fun _ => rfl, fun _ _ => rfl, ⟨by show 0 ≤ n; omega, hn⟩, s.len, s.up, fun y => absurd y ho⟩
  · rw [if_neg h]
    have e : (if (0 : Int) > n then 0 else n) = 0 := by split <;> omega
    rw [e]
    exact ⟨rfl, ⟨s.ok.len, s.ok.max, s.ok.may⟩, s.tape, s.writes, s.flushes, s.down, fun _ => rfl, fun _ y => absurd rfl y, ⟨Int.le_refl _, by show (0 : Int) ≤ _; decide⟩, s.len, s.up, fun y => absurd y ho⟩
theorem Sm.crash {D : RD} {S : FD} (s : Sm D S) (keep : List Bool) : Sm (if D.down = true then D else D.cut keep) (S.crash keep) := by
  unfold FD.crash
  have hd : ¬ S.out = true → ¬ D.down = true := fun y => by rw [s.down]; exact y
  by_cases ho : S.out = true
  · rw [if_pos (s.down.trans ho), if_pos ho]; exact s
  rw [if_neg (hd ho), if_neg ho]
  have ho : S.out = false := by simpa using ho
  obtain ⟨u1, u2⟩ := s.up ho
  have lk := s.ok.left keep
  refine ⟨⟨s.ok.len, s.ok.max, s.ok.may⟩, s.tape, s.writes, s.flushes, rfl, fun y => (by cases y), fun y => (by cases y), s.leftb, by show (applyTo _ _).length = _; rw [applyTo_length]; exact s.len, fun y => (by cases y), fun _ => ⟨?_, rfl⟩⟩
  show applyTo D.lasts (chosen D.pend keep) = leftR keep (chunks S.first) S.acts 0
  rw [u1, u2]; exact lk
theorem Sm.image {D : RD} {S : FD} (s : Sm D S) : D.lasts = S.image := by
  unfold FD.image
  cases ho : S.out with
  | true => rw [if_pos rfl]; exact (s.dn ho).1
  | false =>
    rw [if_neg (by simp), (s.up ho).1, ← s.ok.left []]
    show _ = applyTo S.Q.lasts (chosen S.Q.pend [])
    have : chosen S.Q.pend [] = [] := by unfold chosen; rw [List.zip_nil_right]; rfl
    rw [this]; rfl
theorem readFrom_snoc (b : List UInt8) (i : Int) (ps : List (Int × List UInt8)) (p : Int × List UInt8) : readFrom b i (ps ++ [p]) = if p.1 = i then p.2 else readFrom b i ps := by unfold readFrom; rw [List.foldl_append]; rfl
theorem applyTo_at (i : Nat) : ∀ (ps : List (Int × List UInt8)) (ls : List (List UInt8)), i < ls.length → (∀ x ∈ ps, 0 ≤ x.1) → (applyTo ls ps).getD i [] = readFrom (ls.getD i []) i ps
  | [], _, _, _ => rfl
  | p :: r, ls, hi, h => by
    have h0 := h p (List.mem_cons_self ..)
    show (applyTo (ls.set p.1.toNat p.2) r).getD i [] = readFrom (if p.1 = i then p.2 else ls.getD i []) i r
    rw [applyTo_at i r _ (by rw [List.length_set]; exact hi) fun x hx => h x (List.mem_cons_of_mem _ hx)]
    congr 1
    rw [List.getD_eq_getElem?_getD, List.getD_eq_getElem?_getD]
    by_cases e : p.1 = i
    · rw [if_pos e, show p.1.toNat = i by omega, List.getElem?_set_self hi]; rfl
    · rw [if_neg e, List.getElem?_set_ne (by omega)]
/-- what is read of acts -/
theorem replay_read (N i : Nat) (z : List UInt8) (D0 : RD) (c0 : L3.Calm D0) (hN : D0.lasts.length = N) (h0 : D0.pend = []) (hz : D0.lasts.getD i [] = z) (hi : i < N) : ∀ (n : Nat) (ts : List Tt), ts.length = n → (∀ t ∈ ts, May N t) →
    readAt (replay D0 ts) i = lastW i z ts ∧ (∀ x ∈ (replay D0 ts).pend, 0 ≤ x.1) ∧ (replay D0 ts).pend.map (·.1) = pendF ts := by
  intro n
  induction n with
  | zero =>
    intro ts hl _
    have : ts = [] := List.length_eq_zero_iff.mp hl
    subst this
    refine ⟨?_, ?_, ?_⟩
    · show readFrom (D0.lasts.getD i []) i D0.pend = z
      rw [h0, hz]; rfl
    · intro x hx
      have hx : x ∈ D0.pend := hx
      rw [h0] at hx; cases hx
    · show D0.pend.map (·.1) = []
      rw [h0]; rfl
  | succ n ih =>
    intro ts hl hm
    have hne : ts ≠ [] := fun e => by rw [e] at hl; cases hl
    obtain ⟨us, t, rfl⟩ : ∃ us t, ts = us ++ [t] := ⟨ts.dropLast, ts.getLast hne, (List.dropLast_concat_getLast hne).symm⟩
    have hu : ∀ t ∈ us, May N t := fun x hx => hm x (List.mem_append_left _ hx)
    obtain ⟨i1, i2, i3⟩ := ih us (by rw [List.length_append] at hl; simpa using hl) hu
    obtain ⟨c, lq⟩ := replay_calm N us c0 hN hu
    rw [replay_snoc, lastW_snoc, pendF_snoc]
    obtain ⟨k, j, b⟩ := t
    rcases hm (k, j, b) (List.mem_append_right _ (List.mem_singleton.mpr rfl)) with h2 | ⟨h1, e0, e1, e2⟩
    · have h2 : k = 2 := h2
      subst h2
      rw [again_flush c, if_neg (fun y => by have := y.1; simp at this), if_pos rfl]
      refine ⟨?_, fun x hx => (by cases hx), rfl⟩
      rw [← i1]
      exact applyTo_at i _ _ (by rw [lq]; exact hi) i2
    · have h1 : k = 1 := h1
      subst h1
      rw [again_write c e0 (by rw [lq]; exact e1) e2, if_neg (show ¬ ((1 : Int), j, b).1 = 2 from (by decide : ¬ (1 : Int) = 2))]
      refine ⟨?_, fun x hx => ?_, ?_⟩
      · show readFrom ((replay D0 us).lasts.getD i []) i ((replay D0 us).pend ++ [(j, b)]) = _
        rw [readFrom_snoc, ← i1]
        by_cases e : j = i
        · rw [if_pos e, if_pos ⟨rfl, e⟩]
        · rw [if_neg e, if_neg (fun y => e y.2)]; rfl
      · rcases List.mem_append.mp hx with hx | hx
        · exact i2 x hx
        · rw [List.mem_singleton.mp hx]; exact e0
      · show ((replay D0 us).pend ++ [(j, b)]).map (·.1) = _
        rw [List.map_append, i3]; rfl
theorem Sm.read {D : RD} {S : FD} (s : Sm D S) (ho : S.out = false) {i : Nat} (hi : i < S.N) : readAt D i = lastW i (S.first' i) S.acts := by
  obtain ⟨u1, u2⟩ := s.up ho
  have hl : (chunks S.first).length = S.N := by rw [chunks_length]; rfl
  have hz : (Ad.fresh (chunks S.first)).lasts.getD i [] = S.first' i := by
    show (chunks S.first).getD i [] = _
    rw [List.getD_eq_getElem?_getD, List.getElem?_eq_getElem (by rw [hl]; exact hi), Option.getD_some, chunks_get]; rfl
  obtain ⟨r1, _⟩ := replay_read S.N i (S.first' i) (Ad.fresh (chunks S.first)) (L3.Calm.fresh (chunks_len _)) hl rfl hz hi S.acts.length S.acts rfl s.ok.may
  rw [← r1]
  unfold readAt
  rw [u1, u2]; rfl
theorem Sm.pending {D : RD} {S : FD} (s : Sm D S) (hN : 0 < S.N) : D.pend.map (·.1) = S.pending := by
  unfold FD.pending
  cases ho : S.out with
  | true => rw [if_pos rfl, (s.dn ho).2]; rfl
  | false =>
    rw [if_neg (by simp), (s.up ho).2]
    have hl : (chunks S.first).length = S.N := by rw [chunks_length]; rfl
    exact (replay_read S.N 0 _ (Ad.fresh (chunks S.first)) (L3.Calm.fresh (chunks_len _)) hl rfl rfl hN S.acts.length S.acts rfl s.ok.may).2.2
theorem sm_fresh {bs : List UInt8} (h1 : bs.length % 512 = 0) (h2 : bs.length / 512 ≤ 16384) : Sm (Ad.fresh (chunks bs)) (freshR bs) :=
  ⟨⟨by show bs.length = bs.length / 512 * 512; omega, h2, fun t ht => (by cases ht)⟩, rfl, rfl, rfl, rfl, fun _ => rfl, fun _ y => absurd rfl y, ⟨Int.le_refl _, by show (0 : Int) ≤ _; decide⟩, by show (chunks bs).length = _; rw [chunks_length]; rfl, fun _ => ⟨rfl, rfl⟩, fun y => (by cases y)⟩
end Go.Proofs.Ytnbfaokpaiiojaa.Rf
