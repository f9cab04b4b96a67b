import Derived.Test.YtcdpakjhjmchhaaGreatDoorBmR
import Derived.Test.YtcdpakjhjmchhaaGreatDoorTmC
/-
  bolelaw10: same, samePairs, index.
-/
namespace Go.Proofs.YtcdpakjhjmchhaaGreatDoor.Bm
open Go Go.Proofs Go.Proofs.YtcdpakjhjmchhaaGreatDoor.Wx Go.Proofs.YtcdpakjhjmchhaaGreatDoor.Hp Go.Proofs.YtcdpakjhjmchhaaGreatDoor.W Go.Proofs.YtcdpakjhjmchhaaGreatDoor.Ad Go.Proofs.YtcdpakjhjmchhaaGreatDoor.Tm Go.Proofs.YtcdpakjhjmchhaaGreatDoor.Spc Go.Proofs.YtcdpakjhjmchhaaGreatDoor.Re Go.Proofs.YtcdpakjhjmchhaaGreatDoor.Av
open Go.Proofs.YtcdpakjhjmchhaaGreatDoor.Hd (ints ints_get)

theorem same_spec {a b : Option Addr} {ac bc : Nat} {xs ys : List Int} {h : Heap} {K : Value → Heap → Prop} (A : SlCells h a (ints xs)) (B : SlCells h b (ints ys)) (hl : xs.length ≤ 140737488355328) (hK : K (.bool (decide (xs = ys))) h) : C.bolelaw10_same a xs.length ac b ys.length bc h K := by
  refine bolelaw10_same.ok (cn (fun y => ?_) fun y => ?_)
  · rw [decide_eq_false (fun e => y (by rw [e]))] at hK; exact hK
  have el : xs.length = ys.length := by omega
  refine ⟨fun i hh => ∃ j : Nat, i = j ∧ j ≤ xs.length ∧ hh = h ∧ xs.take j = ys.take j, fun i _ => ((xs.length : Int) - i).toNat, ⟨0, rfl, Nat.zero_le _, rfl, rfl⟩, ?_⟩
  rintro _ _ ⟨j, rfl, hj, rfl, et⟩
  refine cd (fun hlt => ?_) fun hlt => ?_
  · have h1 : j < xs.length := by omega
    have h2 : j < ys.length := by omega
    obtain ⟨p, ep, cp⟩ := ints_get A h1
    obtain ⟨q, eq, cq⟩ := ints_get B h2
    rw [Int.toNat_natCast]
    refine ⟨⟨by omega, hlt⟩, Tm.oe ep ⟨_, cp, ⟨by omega, by omega⟩, Tm.oe eq ⟨_, cq, cn (fun z => ?_) fun z => ?_⟩⟩⟩
    · rw [decide_eq_false (fun e => z (by subst e; rfl))] at hK; exact hK
    · rw [wrap_i64 (by omega) (by omega)]
      exact ⟨⟨j + 1, by omega, h1, rfl, by rw [take_snoc _ _ h1, take_snoc _ _ h2, et, z]⟩, falls hlt⟩
  · have ej : j = xs.length := by omega
    have e : xs = ys := by
      rw [List.take_of_length_le (by omega), List.take_of_length_le (by omega)] at et; exact et
    rw [decide_eq_true e] at hK; exact hK
theorem pair_at {h : Heap} {a : Option Addr} {xs : List (Int × Int)} (A : SlCells h a (xs.flatMap pcellA)) {j : Nat} (hj : j < xs.length) : ∃ p, a = some p ∧ Cells h (p.add (j * 2)) (pcellA xs[j]) := by
  have hw : ∀ r ∈ xs, (pcellA r).length = 2 := fun _ _ => rfl
  cases a with
  | none =>
    have c : xs.flatMap pcellA = [] := A
    have := flat_length pcellA 2 xs hw
    rw [c] at this
    exact absurd this (by simp; omega)
  | some p =>
    refine ⟨p, rfl, ?_⟩
    have := Cells.take (Cells.drop A (j * 2)) 2
    rw [flat_part pcellA 2 xs hw j hj] at this
    exact this
theorem pcell_eq (x y : Int × Int) : cellsEq (pcellA x) (pcellA y) = decide (x = y) := by
  obtain ⟨a, b⟩ := x
  obtain ⟨c, d⟩ := y
  show ((a == c) && ((b == d) && true)) = _
  rw [Bool.and_true, Bool.eq_iff_iff, Bool.and_eq_true, beq_iff_eq, beq_iff_eq, decide_eq_true_iff, Prod.mk.injEq]
theorem samePairs_spec {a b : Option Addr} {ac bc : Nat} {xs ys : List (Int × Int)} {h : Heap} {K : Value → Heap → Prop} (A : SlCells h a (xs.flatMap pcellA)) (B : SlCells h b (ys.flatMap pcellA)) (hl : xs.length ≤ 140737488355328) (hK : K (.bool (decide (xs = ys))) h) : C.bolelaw10_samePairs a xs.length ac b ys.length bc h K := by
  refine bolelaw10_samePairs.ok (cn (fun y => ?_) fun y => ?_)
  · rw [decide_eq_false (fun e => y (by rw [e]))] at hK; exact hK
  have el : xs.length = ys.length := by omega
  refine ⟨fun i hh => ∃ j : Nat, i = j ∧ j ≤ xs.length ∧ hh = h ∧ xs.take j = ys.take j, fun i _ => ((xs.length : Int) - i).toNat, ⟨0, rfl, Nat.zero_le _, rfl, rfl⟩, ?_⟩
  rintro _ _ ⟨j, rfl, hj, rfl, et⟩
  refine cd (fun hlt => ?_) fun hlt => ?_
  · have h1 : j < xs.length := by omega
    have h2 : j < ys.length := by omega
    obtain ⟨p, ep, cp⟩ := pair_at A h1
    obtain ⟨q, eq, cq⟩ := pair_at B h2
    rw [Int.toNat_natCast]
    refine ⟨⟨by omega, hlt⟩, Tm.oe ep ⟨_, rfl, cp, ⟨by omega, by omega⟩, Tm.oe eq ⟨_, rfl, cq, rfl, cnot ?_⟩⟩⟩
    rw [pcell_eq]
    refine cd (fun z => ?_) fun z => ?_
    · rw [wrap_i64 (by omega) (by omega)]
      exact ⟨⟨j + 1, by omega, h1, rfl, by rw [take_snoc _ _ h1, take_snoc _ _ h2, et, z]⟩, falls hlt⟩
    · rw [decide_eq_false (fun e => z (by subst e; rfl))] at hK; exact hK
  · have e : xs = ys := by
      rw [List.take_of_length_le (by omega), List.take_of_length_le (by omega)] at et; exact et
    rw [decide_eq_true e] at hK; exact hK
/-- an index out of any number -/
def idxN (v : Int) : Nat := (IntKind.wrap .u64 v % 16522).toNat
theorem idxN_lt (v : Int) : idxN v < 16522 := by
  have := u64_nat v
  unfold idxN; omega
theorem index_spec {v : Int} {h : Heap} {K : Value → Heap → Prop} (hK : K (.int .i64 (idxN v : Nat)) h) : C.bolelaw10_index v h K := by
  have u := u64_nat v
  refine bolelaw10_index.ok ?_
  unfold bolelaw10_index
  have e1 : Int.tmod (IntKind.wrap .u64 v) 16522 = IntKind.wrap .u64 v % 16522 := Int.tmod_eq_emod_of_nonneg u.1
  rw [e1, wrap_i64 (by omega) (by omega)]
  have e2 : IntKind.wrap .u64 v % 16522 = ((idxN v : Nat) : Int) := by unfold idxN; omega
  rw [e2]; exact hK
end Go.Proofs.YtcdpakjhjmchhaaGreatDoor.Bm
/-
  RANGES OVER MAPS of numbers by numbers: what is left, as a number; frames.
-/
namespace Go.Proofs.YtcdpakjhjmchhaaGreatDoor.Rm
open Go Go.Proofs Go.Proofs.YtcdpakjhjmchhaaGreatDoor.Wx Go.Proofs.YtcdpakjhjmchhaaGreatDoor.Hp Go.Proofs.YtcdpakjhjmchhaaGreatDoor.W Go.Proofs.YtcdpakjhjmchhaaGreatDoor.Tm

/-- how many entries are left -/
def leftLen (h : Heap) (b : Nat) : Nat := match h[b]? with
  | some (.mapIter (some r) _ seen _) => (match h[r]? with
    | some (.map es _) => (es.toList.filter fun e => !seen.contains e.born).length
    | _ => 0)
  | _ => 0
theorem left_len {h : Heap} {b r : Nat} {m left : MapI} (H : MItAt h b r m left) : leftLen h b = left.length := by
  obtain ⟨es, clock, since, seen, last, hr, hb, _, _, _, _, _, hl⟩ := H
  unfold leftLen
  rw [hb]
  simp only
  rw [hr]
  simp only
  have := congrArg List.length hl
  rw [List.length_map, List.length_map] at this
  exact this
theorem it_keep {h h' : Heap} {b r : Nat} {m left : MapI} (H : MItAt h b r m left) (h1 : h'[r]? = h[r]?) (h2 : h'[b]? = h[b]?) : MItAt h' b r m left := by
  obtain ⟨es, clock, since, seen, last, hr, hb, h3⟩ := H
  exact ⟨es, clock, since, seen, last, h1.trans hr, h2.trans hb, h3⟩
theorem it_map {h : Heap} {b r : Nat} {m left : MapI} (H : MItAt h b r m left) : MapAt (.int .i64) h r (mI m) := by
  obtain ⟨es, clock, since, seen, last, hr, hb, hm, hst, _⟩ := H
  refine ⟨es, clock, hr, ?_, ?_, hst⟩
  · rw [hm, mI, List.map_map]; rfl
  · intro p hp
    obtain ⟨q, _, rfl⟩ := List.mem_map.mp hp
    rfl
theorem left_lt {left : MapI} {e : Int × Int} (h : e ∈ left) : (left.filter fun p => p.1 != e.1).length < left.length := by
  rcases Nat.lt_or_ge (left.filter fun p => p.1 != e.1).length left.length with y | y
  · exact y
  · have hs := List.filter_sublist (l := left) (p := fun p => p.1 != e.1)
    have he := hs.eq_of_length_le y
    rw [← he] at h
    have := (List.mem_filter.mp h).2
    simp at this
end Go.Proofs.YtcdpakjhjmchhaaGreatDoor.Rm
/-
  bolelaw10: takes.
-/
namespace Go.Proofs.YtcdpakjhjmchhaaGreatDoor.Bm
open Go Go.Proofs Go.Proofs.YtcdpakjhjmchhaaGreatDoor.Wx Go.Proofs.YtcdpakjhjmchhaaGreatDoor.Hp Go.Proofs.YtcdpakjhjmchhaaGreatDoor.W Go.Proofs.YtcdpakjhjmchhaaGreatDoor.Ad Go.Proofs.YtcdpakjhjmchhaaGreatDoor.Tm Go.Proofs.YtcdpakjhjmchhaaGreatDoor.Spc Go.Proofs.YtcdpakjhjmchhaaGreatDoor.Re Go.Proofs.YtcdpakjhjmchhaaGreatDoor.Av Go.Proofs.YtcdpakjhjmchhaaGreatDoor.Rm

/-- the tables that an index needs, as takes names them -/
def tkeys (k : Int) : List Int := if k ≥ 138 then [-1, (k - 138) / 128] else if k ≥ 10 then [-2] else []
theorem mI_mm (m : MapI) : mI m = mm (Value.int .i64) m := rfl
theorem aput_dom (i v : Int) (m : List (Int × Int)) (h : (m.map (·.1)).Nodup) : ((aput m i v).map (·.1)).Nodup ∧ ∀ x, x ∈ (aput m i v).map (·.1) ↔ x = i ∨ x ∈ m.map (·.1) := by
  rw [aput_keys]
  split
  · rename_i e
    constructor
    · rw [List.nodup_append]
      refine ⟨h, by simp, fun a ha b hb => ?_⟩
      rw [List.mem_singleton] at hb
      subst hb
      obtain ⟨p, hp, rfl⟩ := List.mem_map.mp ha
      exact aget_none.mp e p hp
    · intro x
      rw [List.mem_append, List.mem_singleton]; exact Or.comm
  · rename_i e
    refine ⟨h, fun x => ⟨.inr, fun hx => ?_⟩⟩
    rcases hx with rfl | hx
    · cases e2 : aget m x with
      | none => exact absurd e2 e
      | some b => exact List.mem_map.mpr ⟨_, aget_mem e2, rfl⟩
    · exact hx
theorem get_int (m : List (Int × Int)) (i : Int) : ∃ n : Int, Option.getD (mget (mI m) (.i i)) (zeroV ti3) = .int .i64 n := by
  rw [mI_mm, mget_mm]
  cases aget m i with
  | none => exact ⟨0, rfl⟩
  | some b => exact ⟨b, rfl⟩
/-- one more key in the table of keys -/
theorem put_key {tb : List (Int × Int)} {h : Heap} {b : Nat} {i : Int} {X : Heap → Prop} (M : MapAt (.int .i64) h b (mI tb)) (hn : (tb.map (·.1)).Nodup)
    (hX : ∀ h' tb', (∀ c, c ≠ b → h'[c]? = h[c]?) → h'.size = h.size → MapAt (.int .i64) h' b (mI tb') → (tb'.map (·.1)).Nodup → (∀ x, x ∈ tb'.map (·.1) ↔ x = i ∨ x ∈ tb.map (·.1)) → X h') :
    MapIn (.int .i64) (some b) h fun mm => ∃ n : Int, Option.getD (mget mm (.i i)) (zeroV ti3) = .int .i64 n ∧ MapPut (.int .i64) b (.i i) (.int .i64 (IntKind.wrap .i64 (n + 1))) h X := by
  obtain ⟨n, e⟩ := get_int tb i
  refine ⟨_, M, n, e, _, M, fun h' T => ?_⟩
  have ha := T.at_
  rw [mI_mm, mput_mm] at ha
  obtain ⟨d1, d2⟩ := aput_dom i (IntKind.wrap .i64 (n + 1)) tb hn
  exact hX h' _ T.same T.size ha d1 d2
structure TkI (h0 hh : Heap) (b it r : Nat) (has left : MapI) (tb : List (Int × Int)) : Prop where
  sz : h0.size ≤ hh.size
  fr : ∀ c, c < h0.size → c ≠ b → c ≠ it → hh[c]? = h0[c]?
  I : MItAt hh it r has left
  M : MapAt (.int .i64) hh b (mI tb)
  nd : (tb.map (·.1)).Nodup
  sub : ∀ p ∈ left, p ∈ has
  keys : ∀ key, key ∈ tb.map (·.1) ↔ ∃ p ∈ has, p ∉ left ∧ key ∈ tkeys p.1
theorem takes_spec {r : Nat} {has : MapI} {h : Heap} {K : Value → Heap → Prop} (M : MapAt (.int .i64) h r (mI has)) (hk : ∀ p ∈ has, 0 ≤ p.1 ∧ p.1 < 16522) (hn : (has.map (·.1)).Nodup) (hl : has.length ≤ 100000)
    (hK : ∀ (tb : List Int) h', Fr No h h' → tb.Nodup → (∀ key, key ∈ tb ↔ ∃ p ∈ has, key ∈ tkeys p.1) → K (.int .i64 (IntKind.wrap .i64 ((has.length : Int) + (tb.length : Int)))) h') : C.bolelaw10_takes (some r) h K := by
  have hr : r < h.size := by
    obtain ⟨es, c, e, _⟩ := M
    rcases Nat.lt_or_ge r h.size with y | y
    · exact y
    · rw [Array.getElem?_eq_none y] at e; cases e
  refine bolelaw10_takes.ok ?_
  unfold bolelaw10_takes
  show _
  have f1 : Fr No h (newM h) := ⟨by simp [newM], fun x hx _ => by simp [newM, Array.getElem?_push, show x ≠ h.size by omega]⟩
  have m1 : MapAt (.int .i64) (newM h) h.size (mI []) := ⟨#[], 0, by simp [newM], rfl, (fun p hp => by cases hp), MapKept.stamped_empty 0⟩
  have z1 : (newM h).size = h.size + 1 := by simp [newM]
  refine os ⟨has, map_fr M f1 (fun y => y), fun h3 N => ?_⟩
  have z3 := N.size
  have N1 := N.at_
  refine ⟨fun hh => ∃ left tb, TkI h3 hh h.size (newM h).size r has left tb, fun hh => leftLen hh (newM h).size, ⟨has, [], Nat.le_refl _, fun _ _ _ _ => rfl, N1, ?_, List.nodup_nil, fun p hp => hp, fun key => ?_⟩, ?_⟩
  · obtain ⟨es, c, e, h5⟩ := m1
    exact ⟨es, c, (N.same _ (by omega)).trans e, h5⟩
  · constructor
    · intro y; cases y
    · rintro ⟨p, hp, hq, _⟩; exact absurd hp hq
  rintro h4 ⟨left, tb, T⟩
  refine ⟨rfl, r, has, left, T.I, fun e0 => ?_, fun e he h5 N5 => ⟨rfl, r, e.1, e.2, N5.cur, ?_⟩⟩
  · refine ⟨_, it_map T.I, _, T.M, ?_⟩
    have sz := T.sz
    have F : Fr No h h4 := ⟨by omega, fun b hb _ => (T.fr b (by omega) (by omega) (by omega)).trans ((N.same b (by omega)).trans (f1.same b hb fun y => y))⟩
    have := hK (tb.map (·.1)) h4 F T.nd fun key => by
      rw [T.keys key]
      constructor
      · rintro ⟨p, h1, _, h2⟩; exact ⟨p, h1, h2⟩
      · rintro ⟨p, h1, h2⟩; exact ⟨p, h1, by rw [e0]; exact fun y => (by cases y), h2⟩
    rw [List.length_map] at this
    simp only [mI, List.length_map]
    exact this
  have hin := T.sub e he
  have hk1 := hk e hin
  have z5 := N5.size
  have sz := T.sz
  have b1 : h.size ≠ (newM h).size := by omega
  have rne : r ≠ h.size := by omega
  have M5 : MapAt (.int .i64) h5 h.size (mI tb) := by
    obtain ⟨es, c, e', q⟩ := T.M
    exact ⟨es, c, (N5.same _ b1).trans e', q⟩
  have fin : ∀ h' tb', (∀ c, c ≠ h.size → h'[c]? = h5[c]?) → h'.size = h5.size → MapAt (.int .i64) h' h.size (mI tb') → (tb'.map (·.1)).Nodup → (∀ x, x ∈ tb'.map (·.1) ↔ x ∈ tkeys e.1 ∨ x ∈ tb.map (·.1)) →
      (∃ left tb, TkI h3 h' h.size (newM h).size r has left tb) ∧ leftLen h' (newM h).size < leftLen h4 (newM h).size := fun h' tb' s1 s2 m' nd' ks' => by
    have I' : MItAt h' (newM h).size r has (left.filter fun p => p.1 != e.1) := it_keep N5.at_ (s1 r rne) (s1 _ b1.symm)
    refine ⟨⟨_, tb', by omega, fun c h1 h2 h3' => (s1 c h2).trans ((N5.same c h3').trans (T.fr c h1 h2 h3')), I', m', nd', fun p hp => T.sub p (List.mem_filter.mp hp).1, fun key => ?_⟩, ?_⟩
    · rw [ks' key, T.keys key]
      constructor
      · rintro (y | ⟨p, q1, q2, q3⟩)
        · exact ⟨e, hin, fun y => by have := (List.mem_filter.mp y).2; simp at this, y⟩
        · exact ⟨p, q1, fun y => q2 (List.mem_filter.mp y).1, q3⟩
      · rintro ⟨p, q1, q2, q3⟩
        by_cases hp : p ∈ left
        · have e1 : p.1 = e.1 := Decidable.byContradiction fun y => q2 (List.mem_filter.mpr ⟨hp, by simpa using y⟩)
          rw [e1] at q3; exact .inl q3
        · exact .inr ⟨p, q1, hp, q3⟩
    · rw [left_len I', left_len T.I]; exact left_lt he
  refine cd (fun g1 => ?_) fun g1 => cd (fun g2 => ?_) fun g2 => ?_
  · have et : Int.tdiv (e.1 - 138) 128 = (e.1 - 138) / 128 := Int.tdiv_eq_ediv_of_nonneg (by omega)
    rw [wrap_i64 (n := e.1 - 138) (by omega) (by omega), et, wrap_i64 (n := (e.1 - 138) / 128) (by omega) (by omega)]
    refine put_key M5 T.nd fun h6 tb6 s1 s2 m6 nd6 ks6 => put_key m6 nd6 fun h7 tb7 t1 t2 m7 nd7 ks7 => fin h7 tb7 (fun c hc => (t1 c hc).trans (s1 c hc)) (t2.trans s2) m7 nd7 fun x => ?_
    rw [ks7, ks6]
    unfold tkeys
    rw [if_pos g1]
    simp only [List.mem_cons, List.not_mem_nil, or_false]
    constructor
    · rintro (y | y | y)
      · exact .inl (.inr y)
      · exact .inl (.inl y)
      · exact .inr y
    · rintro ((y | y) | y)
      · exact .inr (.inl y)
      · exact .inl y
      · exact .inr (.inr y)
  · refine put_key M5 T.nd fun h6 tb6 s1 s2 m6 nd6 ks6 => fin h6 tb6 s1 s2 m6 nd6 fun x => ?_
    rw [ks6]
    unfold tkeys
    rw [if_neg g1, if_pos g2, List.mem_singleton]
  · refine fin h5 tb (fun _ _ => rfl) rfl M5 T.nd fun x => ?_
    unfold tkeys
    rw [if_neg g1, if_neg g2]
    simp
end Go.Proofs.YtcdpakjhjmchhaaGreatDoor.Bm
