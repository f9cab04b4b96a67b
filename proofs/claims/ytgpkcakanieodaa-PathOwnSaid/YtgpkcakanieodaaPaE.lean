/-
  PATHS, PLAINLY: what Join makes is read back by Parse, Text and Make; what Clean leaves.
-/
import Derived.Test.YtgpkcakanieodaaPaD
namespace Go.Proofs.Ytgpkcakanieodaa.Pa
open Go Go.Proofs Go.Proofs.Ytgpkcakanieodaa.Wx Go.Proofs.Ytgpkcakanieodaa.Hp Go.Proofs.Ytgpkcakanieodaa.W Go.Proofs.Ytgpkcakanieodaa.Sk Go.Proofs.Ytgpkcakanieodaa.Ch Go.Proofs.Ytgpkcakanieodaa.Rg

/-- may be a piece: bytes, none of them a slash -/
def Piece (p : Txt) : Prop := p ≠ [] ∧ ∀ b ∈ p, b ≠ 47
theorem piecesGo_ok : ∀ (r cur : Txt), (∀ b ∈ cur, b ≠ 47) → ∀ p ∈ piecesGo r cur, Piece p ∧ ∀ b ∈ p, b ∈ cur ∨ b ∈ r
  | [], cur, h, p, hp => by
    unfold piecesGo at hp
    split at hp
    · cases hp
    · rename_i hc
      rw [List.mem_singleton.mp hp]
      exact ⟨⟨hc, h⟩, fun b hb => .inl hb⟩
  | x :: r, cur, h, p, hp => by
    unfold piecesGo at hp
    split at hp
    · rcases List.mem_append.mp hp with hp | hp
      · split at hp
        · cases hp
        · rename_i hc
          rw [List.mem_singleton.mp hp]
          exact ⟨⟨hc, h⟩, fun b hb => .inl hb⟩
      · obtain ⟨h1, h2⟩ := piecesGo_ok r [] (fun b hb => by cases hb) p hp
        exact ⟨h1, fun b hb => (h2 b hb).elim (fun x => by cases x) fun x => .inr (List.mem_cons_of_mem _ x)⟩
    · rename_i hx
      obtain ⟨h1, h2⟩ := piecesGo_ok r (cur ++ [x]) (fun b hb => by
        rcases List.mem_append.mp hb with hb | hb
        · exact h b hb
        · rw [List.mem_singleton.mp hb]; exact hx) p hp
      refine ⟨h1, fun b hb => ?_⟩
      rcases h2 b hb with hb | hb
      · rcases List.mem_append.mp hb with hb | hb
        · exact .inl hb
        · rw [List.mem_singleton.mp hb]; exact .inr (List.mem_cons_self ..)
      · exact .inr (List.mem_cons_of_mem _ hb)
theorem pieces_ok {s p : Txt} (hp : p ∈ pieces s) : Piece p ∧ ∀ b ∈ p, b ∈ s := by
  obtain ⟨h1, h2⟩ := piecesGo_ok s [] (fun b hb => by cases hb) p hp
  exact ⟨h1, fun b hb => (h2 b hb).elim (fun x => by cases x) id⟩
theorem slashed_cons (p : Txt) (r : List Txt) : slashed (p :: r) = 47 :: p ++ slashed r := rfl
theorem pieces_slashed : ∀ ps : List Txt, (∀ p ∈ ps, Piece p) → pieces (slashed ps) = ps
  | [], _ => rfl
  | p :: r, h => by
    have hp := h p (List.mem_cons_self ..)
    rw [slashed_cons, List.cons_append, pieces_slash, pieces_word hp.1 hp.2, pieces_slashed r fun q hq => h q (List.mem_cons_of_mem _ hq)]
    cases r with
    | nil => exact .inl rfl
    | cons q r => exact .inr ⟨q ++ slashed r, rfl⟩
theorem piecesGo_slash (v : Txt) : ∀ (u cur : Txt), piecesGo (u ++ 47 :: v) cur = piecesGo u cur ++ pieces v
  | [], cur => by
    show (if (47 : UInt8) = 47 then _ else _) = _
    rw [if_pos rfl]; rfl
  | b :: u, cur => by
    show (if b = 47 then _ ++ piecesGo (u ++ 47 :: v) [] else piecesGo (u ++ 47 :: v) (cur ++ [b])) = (if b = 47 then _ ++ piecesGo u [] else piecesGo u (cur ++ [b])) ++ pieces v
    split
    · rw [piecesGo_slash v u, List.append_assoc]
    · rw [piecesGo_slash v u]
theorem pieces_split (u v : Txt) : pieces (u ++ 47 :: v) = pieces u ++ pieces v := piecesGo_slash v u []
theorem piecesGo_len : ∀ (r cur : Txt), (slashed (piecesGo r cur)).length ≤ r.length + cur.length + 1
  | [], cur => by
    unfold piecesGo
    split
    · exact Nat.zero_le _
    · rw [slashed_cons]; simp [slashed]
  | x :: r, cur => by
    unfold piecesGo
    split
    · have := piecesGo_len r []
      split
      · simp only [List.nil_append, List.length_cons, List.length_nil] at *; omega
      · rw [slashed, List.flatMap_append, List.length_append]
        simp only [List.flatMap_cons, List.flatMap_nil, List.append_nil, List.length_cons, List.length_nil] at *
        have : ((piecesGo r []).flatMap fun p => 47 :: p).length ≤ r.length + 0 + 1 := this
        omega
    · have := piecesGo_len r (cur ++ [x])
      rw [List.length_append, List.length_singleton] at this
      rw [List.length_cons]; omega
theorem pieces_len {s : Txt} (h : s.head? = some 47) : (slashed (pieces s)).length ≤ s.length := by
  cases s with
  | nil => cases h
  | cons b r =>
    cases (Option.some.inj h)
    rw [pieces_slash, List.length_cons]
    exact piecesGo_len r []
theorem slashed_sub {xs ys : List Txt} (h : xs.Sublist ys) : (slashed xs).length ≤ (slashed ys).length := by
  induction h with
  | slnil => exact Nat.le_refl _
  | cons y _ ih => rw [slashed_cons, List.length_append]; omega
  | cons_cons y _ ih => rw [slashed_cons, slashed_cons, List.length_append, List.length_append]; omega
theorem okPart_iff {p : Txt} : okPart p = true ↔ p ≠ [] ∧ p ≠ [46] ∧ ∀ b ∈ p, b ≠ 47 ∧ b ≠ 0 := by
  unfold okPart
  rw [Bool.and_eq_true, Bool.and_eq_true, Bool.not_eq_true', Bool.not_eq_true', Bool.not_eq_true', beq_eq_false_iff_ne, beq_eq_false_iff_ne, List.any_eq_false]
  refine and_congr Iff.rfl (and_congr Iff.rfl ⟨fun h b hb => ?_, fun h b hb => ?_⟩)
  · have := h b hb
    unfold isBad at this
    rw [Bool.or_eq_true, beq_iff_eq, beq_iff_eq] at this
    exact ⟨fun e => this (.inl e), fun e => this (.inr e)⟩
  · have := h b hb
    unfold isBad
    rw [Bool.or_eq_true, beq_iff_eq, beq_iff_eq]
    rintro (e | e)
    · exact this.1 e
    · exact this.2 e
theorem not_wrong {s : Txt} {b : Bool} (h : wrongB s b = false) : s ≠ [] ∧ (∀ x ∈ s, x ≠ 0) ∧ (b = true → s.head? = some 47) := by
  unfold wrongB at h
  rw [Bool.or_eq_false_iff, Bool.or_eq_false_iff, beq_eq_false_iff_ne] at h
  refine ⟨h.1, fun x hx e => ?_, fun hb => ?_⟩
  · have : s.contains 0 = true := by rw [List.contains_iff_mem, ← e]; exact hx
    rw [this] at h; cases h.2.1
  · have := h.2.2
    rw [hb, Bool.true_and, Bool.not_eq_false'] at this
    exact beq_iff_eq.mp this
theorem wrong_mk {s : Txt} {b : Bool} (h1 : s ≠ []) (h2 : ∀ x ∈ s, x ≠ 0) (h3 : b = true → s.head? = some 47) : wrongB s b = false := by
  unfold wrongB
  rw [Bool.or_eq_false_iff, Bool.or_eq_false_iff, beq_eq_false_iff_ne]
  refine ⟨h1, ?_, ?_⟩
  · cases e : s.contains 0 with
    | false => rfl
    | true => exact absurd rfl (h2 0 (List.contains_iff_mem.mp e))
  · cases b with
    | false => rfl
    | true => rw [h3 rfl]; rfl
/-- what a text has that Parse or Text takes -/
structure Taken (s : Txt) (b : Bool) (cs : List Txt) : Prop where
  w : wrongB s b = false
  c : compA s = some cs
theorem taken_of {s : Txt} {b : Bool} (h : (parseA s b).2 = 0) : Taken s b (parseA s b).1 := by
  unfold parseA at h ⊢
  cases hw : wrongB s b with
  | true => rw [hw, if_pos rfl] at h; cases h
  | false =>
    rw [hw] at h
    rw [if_neg (by simp)] at h ⊢
    cases hc : compA s with
    | none => rw [hc] at h; cases h
    | some cs => exact ⟨hw, hc⟩
theorem Taken.eq {s : Txt} {b : Bool} {cs : List Txt} (t : Taken s b cs) : parseA s b = (cs, 0) := by
  rw [parseA, t.w, if_neg (by simp), t.c]
theorem Taken.is {s : Txt} {b : Bool} {cs : List Txt} (t : Taken s b cs) : s.length ≤ 1024 ∧ cs = comps s ∧ fits cs = true := by
  have := t.c
  unfold compA at this
  split at this
  · split at this
    · rename_i h1 h2
      cases this
      exact ⟨h1, rfl, h2⟩
    · cases this
  · cases this
theorem Taken.mk' {s : Txt} {b : Bool} {cs : List Txt} (w : wrongB s b = false) (h1 : s.length ≤ 1024) (h2 : comps s = cs) (h3 : fits cs = true) : Taken s b cs :=
  ⟨w, by subst h2; rw [compA, if_pos h1, if_pos h3]⟩
theorem Taken.part {s : Txt} {b : Bool} {cs : List Txt} (t : Taken s b cs) {p : Txt} (hp : p ∈ cs) : okPart p = true ∧ p.length ≤ 27 := by
  obtain ⟨h1, h2, h3⟩ := t.is
  have hp' : p ∈ (pieces s).filter fun p => !(p == [46]) := by rw [h2] at hp; exact hp
  rw [List.mem_filter, Bool.not_eq_true', beq_eq_false_iff_ne] at hp'
  obtain ⟨q1, q2⟩ := pieces_ok hp'.1
  have hz := (not_wrong t.w).2.1
  refine ⟨okPart_iff.mpr ⟨q1.1, hp'.2, fun b hb => ⟨q1.2 b hb, hz b (q2 b hb)⟩⟩, ?_⟩
  rw [fits, Bool.and_eq_true, List.all_eq_true] at h3
  simpa using h3.1 p hp
theorem Taken.all {s : Txt} {b : Bool} {cs : List Txt} (t : Taken s b cs) : cs.all okPart = true := List.all_eq_true.mpr fun p hp => (t.part hp).1
theorem Taken.short {s : Txt} {b : Bool} {cs : List Txt} (t : Taken s b cs) : longB cs = false := by
  have h3 := t.is.2.2
  rw [fits, Bool.and_eq_true, decide_eq_true_eq] at h3
  rw [longB, Bool.or_eq_false_iff, decide_eq_false_iff_not, List.any_eq_false]
  exact ⟨by omega, fun p hp => by have := (t.part hp).2; simpa using this⟩
theorem Taken.len {s : Txt} {cs : List Txt} (t : Taken s true cs) : (slashed cs).length ≤ s.length ∧ 1 ≤ s.length := by
  obtain ⟨h1, h2, h3⟩ := t.is
  have hh := (not_wrong t.w).2.2 rfl
  refine ⟨Nat.le_trans ?_ (pieces_len hh), ?_⟩
  · rw [h2]; exact slashed_sub List.filter_sublist
  · cases s with
    | nil => cases hh
    | cons _ _ => rw [List.length_cons]; omega
theorem joinT_len {cs : List Txt} : (joinT cs).length = max (slashed cs).length 1 := by
  unfold joinT
  split
  · rename_i h; subst h; rfl
  · cases cs with
    | nil => rename_i h; exact absurd rfl h
    | cons p r => rw [slashed_cons]; simp only [List.length_cons, List.length_append]; omega
theorem short_iff {ps : List Txt} : longB ps = false ↔ fits ps = true := by
  rw [longB, Bool.or_eq_false_iff, decide_eq_false_iff_not, fits, Bool.and_eq_true, decide_eq_true_eq, List.any_eq_false, List.all_eq_true]
  refine ⟨fun h => ⟨fun p hp => ?_, by omega⟩, fun h => ⟨by omega, fun p hp => ?_⟩⟩
  · have := h.2 p hp; simp only [decide_eq_true_eq] at this ⊢; omega
  · have := h.1 p hp; simp only [decide_eq_true_eq] at this ⊢; omega
theorem noDot_self {ps : List Txt} (h : ps.all okPart = true) : noDot ps = ps :=
  List.filter_eq_self.mpr fun p hp => by
    rw [Bool.not_eq_true', beq_eq_false_iff_ne]
    exact (okPart_iff.mp (List.all_eq_true.mp h p hp)).2.1
theorem pieces_join {ps : List Txt} (h : ps.all okPart = true) : pieces (joinT ps) = ps := by
  unfold joinT
  split
  · rename_i e; subst e; rfl
  · exact pieces_slashed ps fun p hp => by
      obtain ⟨h1, _, h3⟩ := okPart_iff.mp (List.all_eq_true.mp h p hp)
      exact ⟨h1, fun b hb => (h3 b hb).1⟩
theorem joinT_head (ps : List Txt) : (joinT ps).head? = some 47 := by
  unfold joinT
  split
  · rfl
  · cases ps with
    | nil => rename_i h; exact absurd rfl h
    | cons p r => rfl
theorem joinT_zero {ps : List Txt} (h : ps.all okPart = true) : ∀ b ∈ joinT ps, b ≠ 0 := by
  unfold joinT
  split
  · intro b hb; rw [List.mem_singleton.mp hb]; decide
  · intro b hb
    rw [slashed, List.mem_flatMap] at hb
    obtain ⟨p, hp, hb⟩ := hb
    rcases List.mem_cons.mp hb with rfl | hb
    · decide
    · exact ((okPart_iff.mp (List.all_eq_true.mp h p hp)).2.2 b hb).2
/-- what Join makes is taken, and tells the parts -/
theorem join_taken {ps : List Txt} (b : Bool) (h : ps.all okPart = true) (hl : longB ps = false) : Taken (joinT ps) b ps := by
  have hf := short_iff.mp hl
  refine Taken.mk' (wrong_mk (fun e => ?_) (joinT_zero h) fun _ => joinT_head ps) ?_ ?_ hf
  · have := joinT_head ps; rw [e] at this; cases this
  · rw [joinT_len]
    rw [fits, Bool.and_eq_true, decide_eq_true_eq, List.all_eq_true] at hf
    have := slashed_length ps fun p hp => by simpa using hf.1 p hp
    omega
  · rw [comps, pieces_join h, noDot_self h]
theorem joinA_ok {ps : List Txt} (h : ps.all okPart = true) (hl : longB ps = false) : joinA ps = (joinT ps, 0) := by
  rw [joinA, if_pos h, if_neg (by rw [hl]; simp)]
/-- Make, of a text that is taken -/
theorem make_taken {s : Txt} {cs : List Txt} (t : Taken s true cs) : makeA s = if isDots (lastP s) = true then ([], [], 1) else if cs = [] then ([], [], 0) else (cs.dropLast, cs.getLastD [], 0) := by
  rw [makeA, t.w, if_neg (by simp), t.c]
theorem make_join {ps : List Txt} (h : ps.all okPart = true) (hl : longB ps = false) : makeA (joinT ps) = if ps = [] then ([], [], 0) else if ps.getLastD [] = [46, 46] then ([], [], 1) else (ps.dropLast, ps.getLastD [], 0) := by
  rw [make_taken (join_taken true h hl), lastP, pieces_join h]
  by_cases he : ps = []
  · subst he; rfl
  · rw [if_neg he, if_neg he]
    have hm : ps.getLastD [] ∈ ps := by
      rw [List.getLastD_eq_getLast?, List.getLast?_eq_some_getLast he]
      exact List.getLast_mem he
    have h1 := (okPart_iff.mp (List.all_eq_true.mp h _ hm)).2.1
    by_cases hd : ps.getLastD [] = [46, 46]
    · rw [if_pos hd, if_pos (by rw [hd]; rfl)]
    · rw [if_neg hd, if_neg]
      unfold isDots
      rw [beq_eq_false_iff_ne.mpr h1, beq_eq_false_iff_ne.mpr hd]; simp
/-- Clean leaves a row of some of the components, none of them two dots -/
theorem clean_sub : ∀ (cs acc : List Txt), (cs.foldl cleanStep acc).Sublist (acc ++ cs)
  | [], acc => by rw [List.append_nil]; exact List.Sublist.refl _
  | p :: r, acc => by
    refine (clean_sub r (cleanStep acc p)).trans ?_
    rw [show acc ++ p :: r = (acc ++ [p]) ++ r by simp]
    refine List.Sublist.append_right ?_ r
    unfold cleanStep
    split
    · exact (List.dropLast_sublist acc).trans (List.sublist_append_left acc [p])
    · exact List.Sublist.refl _
theorem clean_dots : ∀ (cs acc : List Txt), (∀ p ∈ acc, p ≠ [46, 46]) → ∀ p ∈ cs.foldl cleanStep acc, p ≠ [46, 46]
  | [], acc, h => h
  | p :: r, acc, h => by
    refine clean_dots r (cleanStep acc p) fun q hq => ?_
    unfold cleanStep at hq
    split at hq
    · exact h q (List.dropLast_subset _ hq)
    · rename_i hd
      rcases List.mem_append.mp hq with hq | hq
      · exact h q hq
      · rw [List.mem_singleton.mp hq]; exact hd
theorem clean_self : ∀ (cs acc : List Txt), (∀ p ∈ cs, p ≠ [46, 46]) → cs.foldl cleanStep acc = acc ++ cs
  | [], acc, _ => by rw [List.append_nil]; rfl
  | p :: r, acc, h => by
    rw [List.foldl_cons, clean_self r _ fun q hq => h q (List.mem_cons_of_mem _ hq), cleanStep, if_neg (h p (List.mem_cons_self ..)), List.append_assoc]; rfl
theorem cleanL_sub (cs : List Txt) : (cleanL cs).Sublist cs := clean_sub cs []
theorem cleanL_dots (cs : List Txt) : ∀ p ∈ cleanL cs, p ≠ [46, 46] := clean_dots cs [] fun p hp => by cases hp
theorem cleanL_idem (cs : List Txt) : cleanL (cleanL cs) = cleanL cs := clean_self _ [] (cleanL_dots cs)
theorem all_sub {xs ys : List Txt} (h : xs.Sublist ys) (ha : ys.all okPart = true) : xs.all okPart = true :=
  List.all_eq_true.mpr fun p hp => List.all_eq_true.mp ha p (h.subset hp)
theorem short_sub {xs ys : List Txt} (h : xs.Sublist ys) (ha : longB ys = false) : longB xs = false := by
  rw [short_iff, fits, Bool.and_eq_true, decide_eq_true_eq, List.all_eq_true] at ha ⊢
  exact ⟨fun p hp => ha.1 p (h.subset hp), Nat.le_trans h.length_le ha.2⟩
theorem clean_taken {s : Txt} {cs : List Txt} (t : Taken s true cs) : cleanA s = (joinT (cleanL cs), 0) := by
  have e := t.eq
  rw [cleanA, e, if_pos rfl]
  exact joinA_ok (all_sub (cleanL_sub cs) t.all) (short_sub (cleanL_sub cs) t.short)
end Go.Proofs.Ytgpkcakanieodaa.Pa
