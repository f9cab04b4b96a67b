import Derived.Test.YtcdpakjhjmchhaaGreatDoorBmU
import Derived.Test.YtcdpakjhjmchhaaGreatDoorBmO
/-
  bolelaw10: what a map of indices tells of a record, plainly.
-/
namespace Go.Proofs.YtcdpakjhjmchhaaGreatDoor.Bm
open Go Go.Proofs Go.Proofs.YtcdpakjhjmchhaaGreatDoor.Wx Go.Proofs.YtcdpakjhjmchhaaGreatDoor.Hp Go.Proofs.YtcdpakjhjmchhaaGreatDoor.W Go.Proofs.YtcdpakjhjmchhaaGreatDoor.Ad Go.Proofs.YtcdpakjhjmchhaaGreatDoor.Tm Go.Proofs.YtcdpakjhjmchhaaGreatDoor.Bt Go.Proofs.YtcdpakjhjmchhaaGreatDoor.Spc Go.Proofs.YtcdpakjhjmchhaaGreatDoor.Re Go.Proofs.YtcdpakjhjmchhaaGreatDoor.Av

/-- the map has just the indices where f is -/
structure Dom (f : Nat → Nat) (has : MapI) : Prop where
  nd : (has.map (·.1)).Nodup
  rng : ∀ p ∈ has, 0 ≤ p.1 ∧ p.1 < 16522
  at_ : ∀ k : Nat, k < 16522 → ((k : Int) ∈ has.map (·.1) ↔ f k ≠ 0)
theorem Dom.mem {f : Nat → Nat} {has : MapI} (a : Dom f has) {x : Int} : x ∈ has.map (·.1) ↔ ∃ k : Nat, k < 16522 ∧ x = k ∧ f k ≠ 0 := by
  constructor
  · intro h
    obtain ⟨p, hp, rfl⟩ := List.mem_map.mp h
    obtain ⟨h1, h2⟩ := a.rng p hp
    have e : ((p.1.toNat : Nat) : Int) = p.1 := by omega
    exact ⟨p.1.toNat, by omega, e.symm, (a.at_ _ (by omega)).mp (by rw [e]; exact h)⟩
  · rintro ⟨k, hk, rfl, h0⟩
    exact (a.at_ k hk).mpr h0
def TightF (f : Nat → Nat) : Prop := ∀ q, 16522 ≤ q → q < nS → f q ≠ 0 → ∃ x, loS q ≤ x ∧ x < hiS q ∧ f x ≠ 0
def UpF (f : Nat → Nat) : Prop := ∀ k q, k < 16522 → f k ≠ 0 → q ∈ path k → f q ≠ 0
/-- the map has just the record's indices, with their blocks -/
structure Has (Z : Nat → Txt) (R : List Int) (has : MapI) : Prop where
  nd : (has.map (·.1)).Nodup
  rng : ∀ p ∈ has, 0 ≤ p.1 ∧ p.1 < 16522
  get : ∀ k : Nat, k < 16522 → aget has k = if num Z R k = 0 then none else some ((num Z R k : Nat) : Int)
theorem Has.dom {Z : Nat → Txt} {R : List Int} {has : MapI} (a : Has Z R has) : Dom (num Z R) has := by
  refine ⟨a.nd, a.rng, fun k hk => ?_⟩
  have e := a.get k hk
  constructor
  · intro h h0
    obtain ⟨p, hp, ep⟩ := List.mem_map.mp h
    rw [if_pos h0] at e
    exact aget_none.mp e p hp ep
  · intro h0
    rw [if_neg h0] at e
    exact List.mem_map.mpr ⟨_, aget_mem e, rfl⟩
theorem Has.nil {Z : Nat → Txt} {R : List Int} (h : ∀ s, s < nS → num Z R s = 0) : Has Z R [] :=
  ⟨List.nodup_nil, fun p hp => (by cases hp), fun k hk => by rw [if_pos (h k (by unfold nS; omega))]; rfl⟩
/-- a pair of a row -/
theorem rowN_fst {f : Nat → Nat} (m k : Nat) : ((rowN f k m).map (·.1)).Nodup := by
  have := rowN_lt (f := f) m k
  exact (List.Pairwise.map (S := fun a b : Int => a < b) _ (fun _ _ h => h) this).imp fun h => by omega
theorem Dom.len {f : Nat → Nat} {has : MapI} (a : Dom f has) : (rowN f 0 16522).length = has.length := by
  have h1 : ∀ x, x ∈ (rowN f 0 16522).map (·.1) ↔ x ∈ has.map (·.1) := fun x => by
    rw [a.mem]
    constructor
    · intro h
      obtain ⟨p, hp, rfl⟩ := List.mem_map.mp h
      obtain ⟨j, _, h2, h3, rfl⟩ := (mem_rowN 16522 0).mp hp
      exact ⟨j, by omega, rfl, h3⟩
    · rintro ⟨k, hk, rfl, h0⟩
      exact List.mem_map.mpr ⟨_, (mem_rowN 16522 0).mpr ⟨k, by omega, by omega, h0, rfl⟩, rfl⟩
  have a1 := nodup_len (rowN_fst (f := f) 16522 0) fun x hx => (h1 x).mp hx
  have a2 := nodup_len a.nd fun x hx => (h1 x).mpr hx
  rw [List.length_map, List.length_map] at a1 a2
  omega
/-- the tables' numbers -/
theorem tabN_add {f : Nat → Nat} : ∀ (a k b : Nat), tabN f k (a + b) = tabN f k a ++ tabN f (k + a) b
  | 0, k, b => by rw [Nat.zero_add]; rfl
  | a + 1, k, b => by
    rw [show a + 1 + b = (a + b) + 1 by omega]
    show (if f k = 0 then [] else _) ++ tabN f (k + 1) (a + b) = ((if f k = 0 then [] else _) ++ tabN f (k + 1) a) ++ _
    rw [tabN_add a (k + 1) b, List.append_assoc, show k + 1 + a = k + (a + 1) by omega]
theorem tabN_zero {f : Nat → Nat} : ∀ (m k : Nat), (∀ j, j < m → f (k + j) = 0) → tabN f k m = []
  | 0, _, _ => rfl
  | m + 1, k, h => by
    have h0 := h 0 (by omega)
    rw [Nat.add_zero] at h0
    show (if f k = 0 then [] else _) ++ tabN f (k + 1) m = []
    rw [if_pos h0, tabN_zero m (k + 1) fun j hj => by have := h (j + 1) (by omega); rwa [show k + (j + 1) = k + 1 + j by omega] at this]; rfl
theorem tabs_eq (Z : Nat → Txt) (R : List Int) : tabN (num Z R) 16522 1 ++ (tabN (num Z R) 16523 1 ++ if num Z R 16523 = 0 then [] else tabN (num Z R) 16524 128) = tabN (num Z R) 16522 130 := by
  rw [show 130 = 1 + (1 + 128) by rfl, tabN_add 1 16522, tabN_add 1 (16522 + 1)]
  congr 2
  split
  · rename_i h
    exact (tabN_zero 128 16524 fun j hj => sub_zero (q := 16523) (by decide) h _ (sub_two.mpr (.inr (.inr ⟨by omega, by unfold nS; omega⟩)))).symm
  · rfl
/-- the slots of tables that stand -/
def tabS (f : Nat → Nat) : Nat → Nat → List Nat
  | _, 0 => []
  | k, m + 1 => (if f k = 0 then [] else [k]) ++ tabS f (k + 1) m
theorem tabN_S {f : Nat → Nat} : ∀ (m k : Nat), tabN f k m = (tabS f k m).map fun s => ((f s : Nat) : Int)
  | 0, _ => rfl
  | m + 1, k => by
    show (if f k = 0 then [] else [((f k : Nat) : Int)]) ++ tabN f (k + 1) m = ((if f k = 0 then [] else [k]) ++ tabS f (k + 1) m).map _
    rw [List.map_append, tabN_S m (k + 1)]
    split <;> rfl
theorem mem_tabS {f : Nat → Nat} {x : Nat} : ∀ (m k : Nat), x ∈ tabS f k m ↔ k ≤ x ∧ x < k + m ∧ f x ≠ 0
  | 0, k => by
    constructor
    · intro h; cases h
    · intro h; omega
  | m + 1, k => by
    show x ∈ (if f k = 0 then [] else [k]) ++ tabS f (k + 1) m ↔ _
    rw [List.mem_append, mem_tabS m (k + 1)]
    constructor
    · rintro (h | ⟨h1, h2, h3⟩)
      · split at h
        · cases h
        · rename_i h0
          rw [List.mem_singleton] at h
          subst h
          exact ⟨Nat.le_refl _, by omega, h0⟩
      · exact ⟨by omega, by omega, h3⟩
    · rintro ⟨h1, h2, h3⟩
      by_cases e : x = k
      · subst e
        rw [if_neg h3]; exact .inl (List.mem_singleton.mpr rfl)
      · exact .inr ⟨by omega, by omega, h3⟩
theorem tabS_lt {f : Nat → Nat} : ∀ (m k : Nat), (tabS f k m).Pairwise fun x y => x < y
  | 0, _ => List.Pairwise.nil
  | m + 1, k => by
    show ((if f k = 0 then [] else [k]) ++ tabS f (k + 1) m).Pairwise _
    rw [List.pairwise_append]
    refine ⟨?_, tabS_lt m (k + 1), fun x hx y hy => ?_⟩
    · split
      · exact List.Pairwise.nil
      · exact List.pairwise_singleton _ _
    · have := (mem_tabS m (k + 1)).mp hy
      split at hx
      · cases hx
      · rw [List.mem_singleton.mp hx]; omega
/-- how takes names a table -/
def keyOf (q : Nat) : Int := if q = 16522 then -2 else if q = 16523 then -1 else ((q - 16524 : Nat) : Int)
theorem keyOf_inj {a b : Nat} (ha : 16522 ≤ a) (hb : 16522 ≤ b) (h : keyOf a = keyOf b) : a = b := by
  unfold keyOf at h
  split at h <;> split at h <;> (try split at h) <;> (try split at h) <;> omega
theorem mem_tkeys {k : Nat} (hk : k < 16522) (key : Int) : key ∈ tkeys (k : Int) ↔ ∃ q ∈ path k, 16522 ≤ q ∧ key = keyOf q := by
  unfold tkeys path
  by_cases h1 : (k : Int) ≥ 138
  · rw [if_pos h1, if_neg (by omega), if_neg (by omega)]
    simp only [List.mem_cons, List.not_mem_nil, or_false]
    have e1 : keyOf 16523 = -1 := rfl
    have e2 : keyOf (16524 + (k - 138) / 128) = ((k : Int) - 138) / 128 := by
      unfold keyOf
      rw [if_neg (by omega), if_neg (by omega), Nat.add_sub_cancel_left]; omega
    constructor
    · rintro (h | h)
      · exact ⟨16523, .inl rfl, by decide, by rw [h, e1]⟩
      · exact ⟨16524 + (k - 138) / 128, .inr (.inl rfl), by omega, by rw [h, e2]⟩
    · rintro ⟨q, rfl | rfl | rfl, hq, h⟩
      · exact .inl (by rw [h, e1])
      · exact .inr (by rw [h, e2])
      · omega
  · rw [if_neg h1]
    by_cases h2 : (k : Int) ≥ 10
    · rw [if_pos h2, if_neg (by omega), if_pos (by omega)]
      simp only [List.mem_cons, List.not_mem_nil, or_false]
      have e1 : keyOf 16522 = -2 := rfl
      constructor
      · intro h
        exact ⟨16522, .inl rfl, by decide, by rw [h, e1]⟩
      · rintro ⟨q, rfl | rfl, hq, h⟩
        · rw [h, e1]
        · omega
    · rw [if_neg h2, if_pos (by omega)]
      simp only [List.mem_cons, List.not_mem_nil, or_false]
      constructor
      · intro h; exact h.elim
      · rintro ⟨q, rfl, hq, _⟩; omega
/-- a block's tables stand -/
theorem up_num {Z : Nat → Txt} {R : List Int} {k q : Nat} (hk : k < 16522) (h0 : num Z R k ≠ 0) (hq : q ∈ path k) (h2 : q < nS) : num Z R q ≠ 0 := fun hz => by
  rcases Nat.lt_or_ge q 16522 with h | h
  · rw [path_data hq h] at hz; exact h0 hz
  · obtain ⟨a, b⟩ := path_under hk hq h
    exact h0 (sub_zero h2 hz k (data_sub h h2 a b).1)
theorem up_f (Z : Nat → Txt) (R : List Int) : UpF (num Z R) := fun _ _ hk h0 hq => up_num hk h0 hq (chain_nS (path_chain hk).1 _ hq)
theorem Dom.tabs {f : Nat → Nat} {has : MapI} (a : Dom f has) (tg : TightF f) (up : UpF f) {tb : List Int} (nd : tb.Nodup) (h : ∀ key, key ∈ tb ↔ ∃ p ∈ has, key ∈ tkeys p.1) : (tabN f 16522 130).length = tb.length := by
  rw [tabN_S, List.length_map]
  have e : ∀ key, key ∈ (tabS f 16522 130).map keyOf ↔ key ∈ tb := fun key => by
    rw [h key]
    constructor
    · intro hk
      obtain ⟨q, hq, rfl⟩ := List.mem_map.mp hk
      obtain ⟨h1, h2, h3⟩ := (mem_tabS 130 16522).mp hq
      have hn : q < nS := by unfold nS; omega
      obtain ⟨x, b, c, hx⟩ := tg q h1 hn h3
      have hx2 := (data_sub h1 hn b c).2
      obtain ⟨p, hp, e⟩ := List.mem_map.mp (a.mem.mpr ⟨x, hx2, rfl, hx⟩)
      exact ⟨p, hp, by rw [e]; exact (mem_tkeys hx2 _).mpr ⟨q, under_path h1 hn b c, h1, rfl⟩⟩
    · rintro ⟨p, hp, hk⟩
      obtain ⟨k, hk2, e, h0⟩ := a.mem.mp (List.mem_map.mpr ⟨p, hp, rfl⟩)
      rw [e] at hk
      obtain ⟨q, hq, h1, rfl⟩ := (mem_tkeys hk2 _).mp hk
      have hn : q < nS := chain_nS (path_chain hk2).1 q hq
      exact List.mem_map.mpr ⟨q, (mem_tabS 130 16522).mpr ⟨h1, by unfold nS at hn; omega, up k q hk2 h0 hq⟩, rfl⟩
  have nd' : ((tabS (f) 16522 130).map keyOf).Nodup := by
    have hp := tabS_lt (f := f) 130 16522
    have hm : ∀ x ∈ tabS (f) 16522 130, 16522 ≤ x := fun x hx => ((mem_tabS 130 16522).mp hx).1
    generalize tabS f 16522 130 = l at hp hm
    induction l with
    | nil => exact List.nodup_nil
    | cons x l ih =>
      rw [List.pairwise_cons] at hp
      rw [List.map_cons, List.nodup_cons]
      refine ⟨fun y => ?_, ih hp.2 fun y hy => hm y (List.mem_cons_of_mem _ hy)⟩
      obtain ⟨z, hz, ez⟩ := List.mem_map.mp y
      have := keyOf_inj (hm z (List.mem_cons_of_mem _ hz)) (hm x (List.mem_cons_self ..)) ez
      have := hp.1 z hz
      omega
  have a1 := nodup_len nd' fun x hx => (e x).mp hx
  have a2 := nodup_len nd fun x hx => (e x).mpr hx
  rw [List.length_map] at a1 a2
  omega
theorem tabN_le (f : Nat → Nat) : ∀ (m k : Nat), (tabN f k m).length ≤ m
  | 0, _ => Nat.le_refl _
  | m + 1, k => by
    have := tabN_le f m (k + 1)
    show ((if f k = 0 then [] else [((f k : Nat) : Int)]) ++ tabN f (k + 1) m).length ≤ _
    rw [List.length_append]
    split
    · rw [List.length_nil]; omega
    · rw [List.length_singleton]; omega
/-- slots that stand: the indices and the tables -/
theorem Dom.split {f : Nat → Nat} {has : MapI} (a : Dom f has) : cnt (fun s => decide (f s ≠ 0)) nS = has.length + (tabN f 16522 130).length := by
  have c1 : ∀ (m k : Nat) (p : Nat → Bool), (∀ s, p s = decide (f s ≠ 0)) → cnt p (k + m) = cnt p k + (tabS f k m).length := by
    intro m
    induction m with
    | zero => intro k p _; rfl
    | succ m ih =>
      intro k p hp
      have := ih (k + 1) p hp
      rw [show k + (m + 1) = k + 1 + m by omega, this]
      show cnt p k + (if p k = true then 1 else 0) + _ = cnt p k + ((if f k = 0 then [] else [k]) ++ tabS f (k + 1) m).length
      rw [List.length_append, hp k]
      by_cases h0 : f k = 0
      · rw [if_pos h0, if_neg (by rw [decide_eq_true_eq]; exact fun y => y h0)]; simp
      · rw [if_neg h0, if_pos (decide_eq_true h0)]; simp; omega
  have c2 : ∀ (m k : Nat), (rowN f k m).length = (tabS f k m).length := by
    intro m
    induction m with
    | zero => intro k; rfl
    | succ m ih =>
      intro k
      show ((if f k = 0 then [] else [(((k : Nat) : Int), ((f k : Nat) : Int))]) ++ rowN f (k + 1) m).length = ((if f k = 0 then [] else [k]) ++ tabS f (k + 1) m).length
      rw [List.length_append, List.length_append, ih]
      split <;> rfl
  have e1 := c1 130 16522 (fun s => decide (f s ≠ 0)) fun s => rfl
  have e2 := c1 16522 0 (fun s => decide (f s ≠ 0)) fun s => rfl
  have e3 : cnt (fun s => decide (f s ≠ 0)) 0 = 0 := rfl
  rw [Nat.zero_add, e3, Nat.zero_add] at e2
  unfold nS
  rw [show 16652 = 16522 + 130 by rfl, e1, e2, ← c2, a.len, tabN_S, List.length_map]
/-- what takes tells -/
theorem Dom.takes {f : Nat → Nat} {has : MapI} (a : Dom f has) (tg : TightF f) (up : UpF f) {tb : List Int} (nd : tb.Nodup) (h : ∀ key, key ∈ tb ↔ ∃ p ∈ has, key ∈ tkeys p.1) : has.length + tb.length = cnt (fun s => decide (f s ≠ 0)) nS := by
  rw [a.split, a.tabs tg up nd h]
end Go.Proofs.YtcdpakjhjmchhaaGreatDoor.Bm
/-
  bolelaw10: BmapLowest, plainly.
-/
namespace Go.Proofs.YtcdpakjhjmchhaaGreatDoor.Bm
open Go Go.Proofs Go.Proofs.YtcdpakjhjmchhaaGreatDoor.Wx Go.Proofs.YtcdpakjhjmchhaaGreatDoor.Hp Go.Proofs.YtcdpakjhjmchhaaGreatDoor.W Go.Proofs.YtcdpakjhjmchhaaGreatDoor.Ad Go.Proofs.YtcdpakjhjmchhaaGreatDoor.Tm Go.Proofs.YtcdpakjhjmchhaaGreatDoor.Bt Go.Proofs.YtcdpakjhjmchhaaGreatDoor.Spc Go.Proofs.YtcdpakjhjmchhaaGreatDoor.Re Go.Proofs.YtcdpakjhjmchhaaGreatDoor.Av

theorem miss_append (Z : Nat → Txt) (R : List Int) : ∀ (l m : List Nat), miss Z R (l ++ m) = miss Z R l + miss Z R m
  | [], m => by rw [List.nil_append]; show _ = 0 + _; omega
  | s :: l, m => by
    show (if num Z R s = 0 then 1 else 0) + miss Z R (l ++ m) = (if num Z R s = 0 then 1 else 0) + miss Z R l + miss Z R m
    rw [miss_append Z R l m]; omega
theorem path_split (k : Nat) : ∃ l, path k = l ++ [k] := by
  unfold path
  split
  · exact ⟨[], rfl⟩
  · split
    · exact ⟨[16522], rfl⟩
    · exact ⟨[16523, 16524 + (k - 138) / 128], rfl⟩
/-- the tables of an index that has a block stand -/
theorem miss_zero {Z : Nat → Txt} {R : List Int} {k : Nat} (hk : k < 16522) (h0 : num Z R k ≠ 0) : miss Z R (path k) = 0 := by
  have : ∀ l : List Nat, (∀ s ∈ l, num Z R s ≠ 0) → miss Z R l = 0 := by
    intro l
    induction l with
    | nil => intro _; rfl
    | cons s l ih =>
      intro h
      show (if num Z R s = 0 then 1 else 0) + miss Z R l = 0
      rw [if_neg (h s (List.mem_cons_self ..)), ih fun x hx => h x (List.mem_cons_of_mem _ hx)]
  exact this _ fun s hs => up_num hk h0 hs (chain_nS (path_chain hk).1 s hs)
/-- what an Add does where all is free from nx on -/
theorem Added.lowest {n k nx : Nat} {Z Z' : Nat → Txt} {R R' : List Int} (a : Added n Z R none (path k) Z' R') (hk : k < 16522) (h : From_ n Z nx) :
    From_ n Z' (nx + miss Z R (path k)) ∧ (0 < miss Z R (path k) → num Z' R' k + 1 = nx + miss Z R (path k)) ∧
      (num Z R 16522 = 0 → num Z' R' 16522 ≠ 0 → num Z' R' 16522 = nx) ∧ (num Z R 16523 = 0 → num Z' R' 16523 ≠ 0 → num Z' R' 16523 = nx) := by
  obtain ⟨F, low⟩ := a.low nx h
  have root : ∀ q, q = 16522 ∨ q = 16523 → num Z R q = 0 → num Z' R' q ≠ 0 → num Z' R' q = nx := fun q hq h0 h1 => by
    have hq2 : q < nS := by unfold nS; omega
    by_cases hp : q ∈ path k
    · have e : ∃ r, path k = q :: r := by
        unfold path at hp ⊢
        split
        · rename_i h2; rw [if_pos h2, List.mem_singleton] at hp; omega
        · rename_i h2
          rw [if_neg h2] at hp
          split
          · rename_i h3
            rw [if_pos h3] at hp
            simp only [List.mem_cons, List.not_mem_nil, or_false] at hp
            rcases hp with rfl | rfl
            · exact ⟨_, rfl⟩
            · omega
          · rename_i h3
            rw [if_neg h3] at hp
            simp only [List.mem_cons, List.not_mem_nil, or_false] at hp
            rcases hp with rfl | rfl | rfl
            · exact ⟨_, rfl⟩
            · omega
            · omega
      obtain ⟨r, e⟩ := e
      rw [e] at low
      have := low 0 (by rw [List.length_cons]; omega) h0
      exact this
    · rw [a.off q hq2 hp] at h1; exact absurd h0 h1
  refine ⟨F, fun hm => ?_, root _ (.inl rfl), root _ (.inr rfl)⟩
  have h0 : num Z R k = 0 := Classical.byContradiction fun y => by rw [miss_zero hk y] at hm; omega
  obtain ⟨l, e⟩ := path_split k
  rw [e] at low ⊢
  have hg : (l ++ [k])[l.length]'(by simp) = k := by simp
  have := low l.length (by simp) (by rw [hg]; exact h0)
  rw [hg, List.take_left] at this
  rw [this, miss_append]
  show nx + _ + 1 = nx + (_ + ((if num Z R k = 0 then 1 else 0) + 0))
  rw [if_pos h0]; omega
/-- the map behind an Add -/
theorem Has.add {n k : Nat} {Z Z' : Nat → Txt} {R R' : List Int} {has : MapI} (H : Has Z R has) (a : Added n Z R none (path k) Z' R') (hk : k < 16522) : Has Z' R' (aput has k ((num Z' R' k : Nat) : Int)) := by
  obtain ⟨d1, d2⟩ := aput_dom (k : Int) ((num Z' R' k : Nat) : Int) has H.nd
  refine ⟨d1, fun p hp => ?_, fun j hj => ?_⟩
  · rcases aput_mem hp with rfl | hp
    · exact ⟨by show (0 : Int) ≤ (k : Int); omega, by show (k : Int) < 16522; omega⟩
    · exact H.rng p hp
  · rw [aget_aput]
    by_cases e : j = k
    · subst e
      rw [if_pos rfl, if_neg (a.got j (path_self j))]
    · rw [if_neg (by omega), H.get j hj, a.data hj e]
end Go.Proofs.YtcdpakjhjmchhaaGreatDoor.Bm
