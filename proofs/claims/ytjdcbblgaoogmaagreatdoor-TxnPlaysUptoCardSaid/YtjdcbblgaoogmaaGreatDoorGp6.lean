/-
  TEXTS FOR txnPlays_card: WqP RxG TpP BkA BkX TpA TpB TpC TpD TpE TpF Tplay.
-/
import Derived.Test.YtjdcbblgaoogmaaGreatDoorGp5
namespace Go.Proofs.YtjdcbblgaoogmaaGreatDoor.Wc
open Go Go.Proofs Wx Hp W Ad
structure Rise (n : Int) (l : Nb) : Prop where
  up : (l.map (·.1)).Pairwise (· < ·)
  rng : ∀ p ∈ l, 98 ≤ p.1 ∧ p.1 < n
  len : ∀ p ∈ l, p.2.length = 512
theorem Rise.uniq {n : Int} {l : Nb} (r : Rise n l) {i : Int} {b c : List UInt8} (hb : (i, b) ∈ l) (hc : (i, c) ∈ l) : c = b := by
  obtain ⟨x, hx, ex⟩ := List.getElem_of_mem hb
  obtain ⟨y, hy, ey⟩ := List.getElem_of_mem hc
  have inj : x = y := by
    have p := r.up
    rw [List.pairwise_iff_getElem] at p
    rcases Nat.lt_trichotomy x y with q | q | q
    · have := p x y (by rw [List.length_map]; exact hx) (by rw [List.length_map]; exact hy) q
      rw [List.getElem_map, List.getElem_map, ex, ey] at this
      exact absurd this (by simp)
    · exact q
    · have := p y x (by rw [List.length_map]; exact hy) (by rw [List.length_map]; exact hx) q
      rw [List.getElem_map, List.getElem_map, ex, ey] at this
      exact absurd this (by simp)
  subst inj
  exact (congrArg Prod.snd (ex.symm.trans ey)).symm
def Al (N : Nat) (a b : List (List UInt8)) : Prop := a.length = N ∧ b.length = N ∧ (∀ x ∈ a, x.length = 512) ∧ (∀ x ∈ b, x.length = 512) ∧ ∀ i : Nat, i < 2 ∨ 98 ≤ i → a[i]? = b[i]?
def Valid (N : Nat) (xs : List Stp) : Prop := ∀ s ∈ xs, match s with
  | .w i b => 0 ≤ i ∧ i < (N : Int) ∧ b.length = 512
  | .f => True
def semL : List Stp → List (List UInt8) → Nb → List (List UInt8)
  | [], L, _ => L
  | .w i b :: r, L, P => semL r L (P ++ [(i, b)])
  | .f :: r, L, P => semL r (applyTo L P) []
def cutL (keep : List Bool) : List Stp → Nat → List (List UInt8) → Nb → List (List UInt8)
  | [], _, L, P => applyTo L (chosen P keep)
  | .w i b :: r, c, L, P => if c ≤ 1 then applyTo L (chosen (P ++ [(i, b)]) keep) else cutL keep r (c - 1) L (P ++ [(i, b)])
  | .f :: r, c, L, P => if c ≤ 1 then applyTo L (chosen P keep) else cutL keep r (c - 1) (applyTo L P) []
theorem run_armed (keep : List Bool) : ∀ (xs : List Stp) (S : RD) (c : Nat), S.down = false → S.left = c → S.keep = keep → 0 < c → Valid S.lasts.length xs →
    (xs.length < c → ∃ S', runS xs S = (S', 0) ∧ S'.down = false ∧ S'.lasts = semL xs S.lasts S.pend) ∧ (c ≤ xs.length → ∃ S', runS xs S = (S', 30) ∧ S'.down = true ∧ S'.pend = [] ∧ S'.lasts = cutL keep xs c S.lasts S.pend)
  | [], S, c, hd, _, _, h0, _ => ⟨fun _ => ⟨S, rfl, hd, rfl⟩, fun h => by have h : c ≤ 0 := h; omega⟩
  | s :: r, S, c, hd, hl, hk, h0, hv => by
    have hs := hv s (List.mem_cons_self ..)
    have hr : Valid S.lasts.length r := fun x hx => hv x (List.mem_cons_of_mem _ hx)
    -- one step
    have one : ∀ (S1 : RD) (f : RD → RD), S1.left = c → S1.keep = keep → (s.on S) = S1.step f → (∀ x : Int, (f { S1 with left := x }).down = false ∧ (f { S1 with left := x }).left = x ∧ (f { S1 with left := x }).keep = keep) →
        (c = 1 → s.on S = (RD.cut { S1 with left := 0 } keep, 30)) ∧ (1 < c → s.on S = (f { S1 with left := (c : Int) - 1 }, 0)) := by
      intro S1 f e1 ek es _
      rw [es]
      unfold RD.step
      rw [e1, if_pos (by omega)]
      refine ⟨fun h => ?_, fun h => ?_⟩
      · rw [if_pos (by omega), ek, h]; rfl
      · rw [if_neg (by omega)]
    have tail : ∀ (S2 : RD), s.on S = (S2, 0) → S2.down = false → S2.left = (c : Int) - 1 → S2.keep = keep → S2.lasts.length = S.lasts.length → 1 < c →
        ((s :: r).length < c → ∃ S', runS (s :: r) S = (S', 0) ∧ S'.down = false ∧ S'.lasts = semL r S2.lasts S2.pend) ∧ (c ≤ (s :: r).length → ∃ S', runS (s :: r) S = (S', 30) ∧ S'.down = true ∧ S'.pend = [] ∧ S'.lasts = cutL keep r (c - 1) S2.lasts S2.pend) := by
      intro S2 e d2 l2 k2 n2 hc
      obtain ⟨a, b⟩ := run_armed keep r S2 (c - 1) d2 (by rw [l2]; omega) k2 (by omega) (by rw [n2]; exact hr)
      have er : runS (s :: r) S = runS r S2 := by
        show (if (s.on S).2 = 0 then runS r (s.on S).1 else s.on S) = _
        rw [e, if_pos rfl]
      rw [er]
      exact ⟨fun h => a (by rw [List.length_cons] at h; omega), fun h => b (by rw [List.length_cons] at h; omega)⟩
    have cutR : ∀ (S2 : RD), s.on S = (S2, 30) → S2.down = true → S2.pend = [] → ((s :: r).length < c → False) → ∃ S', runS (s :: r) S = (S', 30) ∧ S'.down = true ∧ S'.pend = [] ∧ S'.lasts = S2.lasts := by
      intro S2 e d2 p2 _
      refine ⟨S2, ?_, d2, p2, rfl⟩
      show (if (s.on S).2 = 0 then runS r (s.on S).1 else s.on S) = _
      rw [e]
      exact if_neg (show ¬ ((30 : Int) = 0) by decide)
    cases s with
    | w i b =>
      have hs : 0 ≤ i ∧ i < (S.lasts.length : Int) ∧ b.length = 512 := hs
      have es : (Stp.w i b).on S = (S.putW i b).step id := by
        show S.write i b = _
        unfold RD.write
        rw [hd, if_neg (by simp), if_neg (fun x => x ⟨hs.1, hs.2.1⟩), if_neg (fun x => x hs.2.2)]
      obtain ⟨o1, o2⟩ := one (S.putW i b) id hl hk es fun x => ⟨hd, rfl, hk⟩
      by_cases hc : c = 1
      · have e := o1 hc
        refine ⟨fun h => by rw [List.length_cons] at h; omega, fun _ => ?_⟩
        obtain ⟨S', x, y, z, w⟩ := cutR _ e rfl rfl (fun h => by rw [List.length_cons] at h; omega)
        refine ⟨S', x, y, z, ?_⟩
        rw [w]
        show applyTo S.lasts (chosen (S.pend ++ [(i, b)]) keep) = if c ≤ 1 then _ else _
        rw [if_pos (by omega)]
      · obtain ⟨a, b'⟩ := tail _ (o2 (by omega)) hd rfl hk rfl (by omega)
        refine ⟨a, fun h => ?_⟩
        obtain ⟨S', x, y, z, w⟩ := b' h
        refine ⟨S', x, y, z, ?_⟩
        rw [w]
        show _ = if c ≤ 1 then _ else _
        rw [if_neg (by omega)]; rfl
    | f =>
      have es : (Stp.f).on S = RD.step { S with flushes := IntKind.wrap .i64 (S.flushes + 1) } RD.flushed := by
        show S.flush = _
        unfold RD.flush
        rw [hd, if_neg (by simp)]
      obtain ⟨o1, o2⟩ := one { S with flushes := IntKind.wrap .i64 (S.flushes + 1) } RD.flushed hl hk es fun x => ⟨hd, rfl, hk⟩
      by_cases hc : c = 1
      · have e := o1 hc
        refine ⟨fun h => by rw [List.length_cons] at h; omega, fun _ => ?_⟩
        obtain ⟨S', x, y, z, w⟩ := cutR _ e rfl rfl (fun h => by rw [List.length_cons] at h; omega)
        refine ⟨S', x, y, z, ?_⟩
        rw [w]
        show applyTo S.lasts (chosen S.pend keep) = if c ≤ 1 then _ else _
        rw [if_pos (by omega)]
      · obtain ⟨a, b'⟩ := tail _ (o2 (by omega)) hd rfl hk (by show (applyTo S.lasts S.pend).length = _; exact applyTo_length _ _) (by omega)
        refine ⟨a, fun h => ?_⟩
        obtain ⟨S', x, y, z, w⟩ := b' h
        refine ⟨S', x, y, z, ?_⟩
        rw [w]
        show _ = if c ≤ 1 then _ else _
        rw [if_neg (by omega)]; rfl
theorem cut_ws (keep : List Bool) : ∀ (m : Nb) (r : List Stp) (c : Nat) (L : List (List UInt8)) (P : Nb), 0 < c →
    cutL keep (ws m ++ Stp.f :: r) c L P = if c ≤ m.length + 1 then applyTo L (chosen (P ++ m.take c) keep) else cutL keep r (c - m.length - 1) (applyTo L (P ++ m)) []
  | [], r, c, L, P, h0 => by
    show (if c ≤ 1 then applyTo L (chosen P keep) else cutL keep r (c - 1) (applyTo L P) []) = _
    rw [List.take_nil, List.append_nil]; rfl
  | p :: m, r, c, L, P, h0 => by
    show (if c ≤ 1 then applyTo L (chosen (P ++ [(p.1, p.2)]) keep) else cutL keep (ws m ++ Stp.f :: r) (c - 1) L (P ++ [(p.1, p.2)])) = _
    by_cases hc : c ≤ 1
    · have : c = 1 := by omega
      subst this
      rw [if_pos (by omega), if_pos (by rw [List.length_cons]; omega)]; rfl
    · rw [if_neg hc, cut_ws keep m r (c - 1) L _ (by omega), List.length_cons]
      obtain ⟨d, rfl⟩ : ∃ d, c = d + 2 := ⟨c - 2, by omega⟩
      have e1 : (p :: m).take (d + 2) = p :: m.take (d + 1) := rfl
      rw [e1, List.append_assoc, List.append_assoc]
      by_cases h : d + 2 ≤ m.length + 1 + 1
      · rw [if_pos (by omega), if_pos h]; rfl
      · rw [if_neg (by omega), if_neg h, show d + 2 - (m.length + 1) - 1 = d + 2 - 1 - m.length - 1 by omega]; rfl
theorem sem_ws : ∀ (m : Nb) (r : List Stp) (L : List (List UInt8)) (P : Nb), semL (ws m ++ Stp.f :: r) L P = semL r (applyTo L (P ++ m)) []
  | [], r, L, P => by show semL r (applyTo L P) [] = _; rw [List.append_nil]
  | p :: m, r, L, P => by
    show semL (ws m ++ Stp.f :: r) L (P ++ [(p.1, p.2)]) = _
    rw [sem_ws m, List.append_assoc]; rfl
theorem chosen_mem {ps : Nb} {keep : List Bool} {p : Int × List UInt8} (h : p ∈ chosen ps keep) : p ∈ ps := by
  unfold chosen at h
  obtain ⟨q, hq, rfl⟩ := List.mem_map.mp h
  exact (List.of_mem_zip (List.mem_filter.mp hq).1).1
theorem chosen_one (x : Int × List UInt8) (keep : List Bool) : chosen [x] keep = if keep.getD 0 false = true then [x] else [] := by
  unfold chosen
  cases keep with
  | nil => rfl
  | cons b r => cases b <;> rfl
theorem apply_over {L : List (List UInt8)} {l ps : Nb} {n : Int} (r : Rise n l) (hn : n ≤ L.length) (h : ∀ p ∈ ps, p ∈ l) : applyTo (applyTo L ps) l = applyTo L l := by
  apply List.ext_getElem?
  intro i
  have pos : ∀ p ∈ l, 0 ≤ p.1 := fun p hp => by have := r.rng p hp; omega
  by_cases hm : ∃ b, ((i : Int), b) ∈ l
  · obtain ⟨b, hb⟩ := hm
    have hu : ∀ c, ((i : Int), c) ∈ l → c = b := fun c hc => r.uniq hb hc
    have hi : i < L.length := by have := r.rng _ hb; simp only at this; omega
    rw [applyTo_of (by rw [applyTo_length]; exact hi) hb hu pos, applyTo_of hi hb hu pos]
  · have no : ∀ p ∈ l, p.1 ≠ i ∧ 0 ≤ p.1 := fun p hp => ⟨fun e => hm ⟨p.2, by rw [← e]; exact hp⟩, pos p hp⟩
    rw [applyTo_get no, applyTo_get (fun p hp => no p (h p hp)), applyTo_get no]
structure Log (L : List (List UInt8)) (l : Nb) : Prop where
  head : L[1]? = some (hdrOf l)
  data : ∀ k (h : k < l.length), L[2 + k]? = some l[k].2
theorem Log.keep {L L' : List (List UInt8)} {l : Nb} (g : Log L l) (hl : l.length ≤ 96) (h : ∀ i : Nat, i < 98 → L'[i]? = L[i]?) : Log L' l :=
  ⟨(h 1 (by omega)).trans g.head, fun k hk => (h _ (by omega)).trans (g.data k hk)⟩
theorem Log.held {L : List (List UInt8)} {l : Nb} (g : Log L l) (hN : 98 ≤ L.length) (hN2 : L.length ≤ 16384) (r : Rise L.length l) (hne : l ≠ []) (hl : l.length ≤ 96) : heldM (fresh L) = (l, 0) := by
  have e1 : readAt (fresh L) 1 = hdrOf l := by
    show L.getD 1 [] = _
    rw [List.getD_eq_getElem?_getD, g.head]; rfl
  have e2 : ∀ k (h : k < l.length), readAt (fresh L) (2 + k) = l[k].2 := fun k h => by
    show L.getD (2 + k) [] = _
    rw [List.getD_eq_getElem?_getD, g.data k h]; rfl
  have ln : 0 < l.length := by
    cases l with
    | nil => exact absurd rfl hne
    | cons _ _ => rw [List.length_cons]; omega
  have hmay : Hd.mayM (l.map (·.1)) L.length = true := by
    unfold Hd.mayM
    rw [Tm.okGo_of _ 97 r.up fun x hx => by
      obtain ⟨p, hp, rfl⟩ := List.mem_map.mp hx
      have := r.rng p hp
      omega, decide_eq_true (by rw [List.length_map]; omega), decide_eq_true (by rw [List.length_map]; omega)]; rfl
  have hb : ∀ x ∈ l.map (·.1), x < 4294967296 := fun x hx => by
    obtain ⟨p, hp, rfl⟩ := List.mem_map.mp hx
    have := r.rng p hp
    omega
  have eN : heldN (fresh L) = (l.map (·.1), 0) := by
    unfold heldN
    rw [e1]
    exact Hd.laid_nums hmay hb
  have eL : heldL (fresh L) (l.map (·.1)).length = l := by
    unfold heldL
    rw [eN]
    apply List.ext_getElem
    · rw [List.length_map, List.length_range, List.length_map]
    · intro k h1 h2
      rw [List.getElem_map, List.getElem_range, e2 k h2, List.getD_eq_getElem?_getD, List.getElem?_map, List.getElem?_eq_getElem h2]; rfl
  have hs := Hd.sum_range (Hd.laidM (l.map (·.1)) 0) (l.map (·.2))
  have hgood : Hd.goodM (hdrOf l) L.length (l.map (·.2)) = true := by
    unfold hdrOf
    rw [Hd.laid_good hmay hb (by have := hs.1; have := hs.2; omega)]
    have hbl : Hd.blM (l.map (·.2)) (l.map (·.1)).length = true := by
      unfold Hd.blM
      rw [List.length_map, List.length_map, beq_self_eq_true, Bool.and_true]
      exact List.all_eq_true.mpr fun d hd => by
        obtain ⟨p, h1, rfl⟩ := List.mem_map.mp hd
        exact beq_iff_eq.mpr (r.len p h1)
    rw [hbl, Int.toNat_of_nonneg hs.1, beq_self_eq_true]; rfl
  have hg2 : Hd.goodM (readAt (fresh L) 1) (fresh L).lasts.length (l.map (·.2)) = true := by rw [e1]; exact hgood
  unfold heldM
  rw [show (fresh L).down = false from rfl, if_neg (by simp), if_neg (by show ¬ ((L.length : Int) < 98); omega), eN, if_neg (fun y => y rfl), eL, if_pos (.inr hg2)]
inductive Hol (N : Nat) (L w : List (List UInt8)) : Prop where
  | emp : L[1]? = some (Hd.zeros 512) → Al N L w → Hol N L w
  | ful (l : Nb) : Log L l → Rise N l → l ≠ [] → l.length ≤ 96 → (∀ x ∈ L, x.length = 512) → L.length = N → Al N (applyTo (applyTo L l) [(1, Hd.zeros 512)]) w → Hol N L w
end Go.Proofs.YtjdcbblgaoogmaaGreatDoor.Wc
namespace Go.Proofs.YtjdcbblgaoogmaaGreatDoor.Wc
open Go Go.Proofs Wx Hp W Ad
theorem apply_at : ∀ (ps : Nb) {A B : List (List UInt8)} {i : Nat}, A.length = B.length → A[i]? = B[i]? → (applyTo A ps)[i]? = (applyTo B ps)[i]?
  | [], _, _, _, _, h => h
  | p :: r, A, B, i, hl, h => by
    show (applyTo (A.set p.1.toNat p.2) r)[i]? = (applyTo (B.set p.1.toNat p.2) r)[i]?
    refine apply_at r (by rw [List.length_set, List.length_set, hl]) ?_
    rw [List.getElem?_set, List.getElem?_set, hl, h]
theorem one_get {A : List (List UInt8)} {x : List UInt8} {i : Nat} (h : i ≠ 1) : (applyTo A [(1, x)])[i]? = A[i]? := applyTo_get fun p hp => by rw [List.mem_singleton.mp hp]; simp only; omega
theorem one_at {A : List (List UInt8)} {x : List UInt8} (h : 1 < A.length) : (applyTo A [(1, x)])[1]? = some x := by
  show (A.set ((1 : Int)).toNat x)[1]? = _
  exact List.getElem?_set_self h
theorem low_get {A : List (List UInt8)} {l ps : Nb} {n : Int} (r : Rise n l) (h : ∀ p ∈ ps, p ∈ l) {i : Nat} (hi : i < 98) : (applyTo A ps)[i]? = A[i]? := applyTo_get fun p hp => by have := r.rng p (h p hp); omega
theorem log_rng {l : Nb} (hl : l.length ≤ 96) : ∀ p ∈ logL l, 2 ≤ p.1 ∧ p.1 < 98 := fun p hp => by
  obtain ⟨j, hj, rfl⟩ := List.getElem_of_mem hp
  rw [logL_get]
  rw [logL_length] at hj
  simp only; omega
theorem log_get {A : List (List UInt8)} {l ps : Nb} (hl : l.length ≤ 96) (h : ∀ p ∈ ps, p ∈ logL l) {i : Nat} (hi : i < 2 ∨ 98 ≤ i) : (applyTo A ps)[i]? = A[i]? := applyTo_get fun p hp => by have := log_rng hl p (h p hp); omega
theorem log_len {l : Nb} (h : ∀ p ∈ l, p.2.length = 512) : ∀ p ∈ logL l, p.2.length = 512 := fun p hp => by
  obtain ⟨j, hj, rfl⟩ := List.getElem_of_mem hp
  rw [logL_get]
  have hj' : j < l.length := by rw [logL_length] at hj; exact hj
  exact h (l[j]'hj') (List.getElem_mem hj')
theorem log_data {A : List (List UInt8)} {l : Nb} (hl : l.length ≤ 96) (hA : 98 ≤ A.length) {k : Nat} (h : k < l.length) : (applyTo A (logL l))[2 + k]? = some l[k].2 := by
  have hk : k < (logL l).length := by rw [logL_length]; exact h
  have hm : (((2 + k : Nat) : Int), l[k].2) ∈ logL l := by
    have := List.getElem_mem hk
    rw [logL_get] at this
    rw [show ((2 + k : Nat) : Int) = 2 + (k : Int) by omega]; exact this
  refine applyTo_of (by omega) hm (fun c hc => ?_) fun p hp => by have := log_rng hl p hp; omega
  obtain ⟨j, hj, ej⟩ := List.getElem_of_mem hc
  rw [logL_get] at ej
  have e1 := congrArg Prod.fst ej
  have e2 := congrArg Prod.snd ej
  have e1 : 2 + (j : Int) = ((2 + k : Nat) : Int) := e1
  have : j = k := by omega
  subst this
  exact e2.symm
theorem one_len {A : List (List UInt8)} {x : List UInt8} (h : ∀ y ∈ A, y.length = 512) (hx : x.length = 512) : ∀ y ∈ applyTo A [(1, x)], y.length = 512 := apply_len _ _ h fun p hp => by rw [List.mem_singleton.mp hp]; exact hx
structure Rdy (N : Nat) (S : RD) (l : Nb) : Prop where
  down : S.down = false
  pend : S.pend = []
  len : S.lasts.length = N
  n : 98 ≤ N ∧ N ≤ 16384
  log : S.lasts[1]? = some (Hd.zeros 512)
  b : ∀ x ∈ S.lasts, x.length = 512
  r : Rise N l
  ne : l ≠ []
  max : l.length ≤ 96
theorem Rdy.wal {N : Nat} {S : RD} {l : Nb} (a : Rdy N S l) : wal S l = runS (commitS l (hdrOf l)) S := by
  have hmay : mayW l S.lasts.length = true := by
    unfold mayW
    rw [a.len, Tm.okGo_of _ 97 a.r.up fun x hx => by
      obtain ⟨p, hp, rfl⟩ := List.mem_map.mp hx
      have := a.r.rng p hp
      omega, decide_eq_true (by have := a.max; omega)]; rfl
  have hall : (l.map (·.2)).all (fun d => d.length == 512) = true := List.all_eq_true.mpr fun d hd => by
    obtain ⟨p, h1, rfl⟩ := List.mem_map.mp hd
    exact beq_iff_eq.mpr (a.r.len p h1)
  unfold Wc.wal
  rw [if_neg a.ne, hmay, if_neg (by simp), hall, if_neg (by simp), a.down, if_neg (by simp)]
theorem commit_form (l : Nb) (hdr : List UInt8) : commitS l hdr = ws (logL l) ++ Stp.f :: (ws [(1, hdr)] ++ Stp.f :: (ws l ++ Stp.f :: (ws [(1, Hd.zeros 512)] ++ Stp.f :: []))) := by
  unfold commitS homeS
  simp only [List.append_assoc, List.cons_append, List.nil_append]; rfl
theorem home_valid {N : Nat} {l : Nb} (hN : 98 ≤ N) (r : Rise N l) : Valid N (homeS l) := by
  intro s hs
  unfold homeS at hs
  rcases List.mem_append.mp hs with hs | hs
  · obtain ⟨p, hp, rfl⟩ := List.mem_map.mp hs
    have := r.rng p hp
    exact ⟨by omega, this.2, r.len p hp⟩
  · rcases List.mem_cons.mp hs with rfl | hs
    · trivial
    · rcases List.mem_cons.mp hs with rfl | hs
      · exact ⟨by omega, by omega, Hd.zeros_length 512⟩
      · rw [List.mem_singleton.mp hs]; trivial
theorem commit_valid {N : Nat} {l : Nb} {hdr : List UInt8} (hN : 98 ≤ N) (r : Rise N l) (hl : l.length ≤ 96) (hh : hdr.length = 512) : Valid N (commitS l hdr) := by
  intro s hs
  unfold commitS at hs
  rcases List.mem_append.mp hs with hs | hs
  · rcases List.mem_append.mp hs with hs | hs
    · obtain ⟨p, hp, rfl⟩ := List.mem_map.mp hs
      have := log_rng hl p hp
      exact ⟨by omega, by omega, log_len r.len p hp⟩
    · rcases List.mem_cons.mp hs with rfl | hs
      · trivial
      · rcases List.mem_cons.mp hs with rfl | hs
        · exact ⟨by omega, by omega, hh⟩
        · rw [List.mem_singleton.mp hs]; trivial
  · exact home_valid hN r s hs
theorem home_len (l : Nb) : (homeS l).length = l.length + 3 := by unfold homeS ws; rw [List.length_append, List.length_map]; rfl
theorem commit_len (l : Nb) (hdr : List UInt8) : (commitS l hdr).length = 2 * l.length + 6 := by
  unfold commitS
  rw [List.length_append, List.length_append, home_len]
  unfold ws
  rw [List.length_map, logL_length]
  show l.length + 3 + (l.length + 3) = _
  omega
structure Stn (N : Nat) (L : List (List UInt8)) (l : Nb) : Prop where
  l1 : Al N (applyTo L (logL l)) L ∧ (applyTo L (logL l))[1]? = some (Hd.zeros 512)
  part : ∀ ps : Nb, (∀ p ∈ ps, p ∈ logL l) → Al N (applyTo L ps) L ∧ (applyTo L ps)[1]? = some (Hd.zeros 512)
  g2 : Log (applyTo (applyTo L (logL l)) [(1, hdrOf l)]) l
  b2 : ∀ x ∈ applyTo (applyTo L (logL l)) [(1, hdrOf l)], x.length = 512
  n2 : (applyTo (applyTo L (logL l)) [(1, hdrOf l)]).length = N
  fin : Al N (applyTo (applyTo (applyTo (applyTo L (logL l)) [(1, hdrOf l)]) l) [(1, Hd.zeros 512)]) (applyTo L l)
  zero : (applyTo (applyTo (applyTo (applyTo L (logL l)) [(1, hdrOf l)]) l) [(1, Hd.zeros 512)])[1]? = some (Hd.zeros 512)
theorem hdr_len {l : Nb} (hl : l.length ≤ 96) : (hdrOf l).length = 512 := Hd.laid_length _ _ (by rw [List.length_map]; omega)
theorem stations {N : Nat} {L : List (List UInt8)} {l : Nb} (hn : 98 ≤ N) (hL : L.length = N) (hz : L[1]? = some (Hd.zeros 512)) (h5 : ∀ x ∈ L, x.length = 512) (r : Rise N l) (hl : l.length ≤ 96) : Stn N L l := by
  have hh := hdr_len hl
  have part : ∀ ps : Nb, (∀ p ∈ ps, p ∈ logL l) → Al N (applyTo L ps) L ∧ (applyTo L ps)[1]? = some (Hd.zeros 512) := fun ps h =>
    ⟨⟨by rw [applyTo_length, hL], hL, apply_len _ _ h5 fun p hp => log_len r.len p (h p hp), h5, fun i hi => log_get hl h hi⟩, by rw [log_get hl h (.inl (by omega))]; exact hz⟩
  have n1 : (applyTo L (logL l)).length = N := by rw [applyTo_length, hL]
  have b1 : ∀ x ∈ applyTo L (logL l), x.length = 512 := apply_len _ _ h5 (log_len r.len)
  have n2 : (applyTo (applyTo L (logL l)) [(1, hdrOf l)]).length = N := by rw [applyTo_length, n1]
  have b2 := one_len b1 hh
  have b3 : ∀ x ∈ applyTo (applyTo (applyTo L (logL l)) [(1, hdrOf l)]) l, x.length = 512 := apply_len _ _ b2 r.len
  have z4 : (applyTo (applyTo (applyTo (applyTo L (logL l)) [(1, hdrOf l)]) l) [(1, Hd.zeros 512)])[1]? = some (Hd.zeros 512) := one_at (by rw [applyTo_length, n2]; omega)
  refine ⟨part _ fun _ h => h, part, ⟨one_at (by omega), fun k hk => by rw [one_get (by omega)]; exact log_data hl (by omega) hk⟩, b2, n2, ⟨by rw [applyTo_length, applyTo_length, n2], by rw [applyTo_length, hL], one_len b3 (Hd.zeros_length 512), apply_len _ _ h5 r.len, fun i hi => ?_⟩, z4⟩
  by_cases e : i = 1
  · subst e
    rw [z4, low_get r (fun _ h => h) (by omega)]; exact hz.symm
  · rw [one_get e]
    refine apply_at l (by rw [n2, hL]) ?_
    rw [one_get e, log_get hl (fun _ h => h) hi]
theorem commit_cut {N : Nat} {S : RD} {l : Nb} {c : Nat} {keep : List Bool} (a : Rdy N S l) (hc : S.left = c) (h0 : 0 < c) (hk : S.keep = keep) :
    (2 * l.length + 6 < c → ∃ S', wal S l = (S', 0) ∧ S'.down = false ∧ Hol N S'.lasts (applyTo S.lasts l)) ∧
    (c ≤ 2 * l.length + 6 → ∃ S', wal S l = (S', 30) ∧ S'.down = true ∧ Hol N S'.lasts (if c < l.length + 2 ∨ (c < l.length + 4 ∧ keep.getD 0 false = false) then S.lasts else applyTo S.lasts l)) := by
  have st := stations a.n.1 a.len a.log a.b a.r a.max
  have hn := a.n
  obtain ⟨A, B⟩ := run_armed keep (commitS l (hdrOf l)) S c a.down hc hk h0 (by rw [a.len]; exact commit_valid a.n.1 a.r a.max (hdr_len a.max))
  rw [commit_len, a.pend] at A B
  rw [a.wal]
  have take1 : ∀ (x : Int × List UInt8) (k : Nat), 0 < k → [x].take k = [x] := fun x k h => List.take_of_length_le (by show 1 ≤ k; omega)
  refine ⟨fun h => ?_, fun h => ?_⟩
  · obtain ⟨S', e, d, el⟩ := A h
    refine ⟨S', e, d, ?_⟩
    rw [commit_form, sem_ws, sem_ws, sem_ws, sem_ws] at el
    simp only [List.nil_append] at el
    have el : S'.lasts = applyTo (applyTo (applyTo (applyTo S.lasts (logL l)) [(1, hdrOf l)]) l) [(1, Hd.zeros 512)] := el
    rw [el]
    exact .emp st.zero st.fin
  · obtain ⟨S', e, d, _, el⟩ := B h
    refine ⟨S', e, d, ?_⟩
    rw [commit_form, cut_ws keep _ _ _ _ _ h0, logL_length, List.nil_append] at el
    by_cases c1 : c ≤ l.length + 1
    · rw [if_pos c1] at el
      rw [if_pos (.inl (by omega)), el]
      obtain ⟨x, y⟩ := st.part (chosen ((logL l).take c) keep) fun p hp => List.mem_of_mem_take (chosen_mem hp)
      exact .emp y x
    rw [if_neg c1, cut_ws keep _ _ _ _ _ (by omega)] at el
    simp only [List.nil_append, List.length_singleton] at el
    by_cases c2 : c - l.length - 1 ≤ 1 + 1
    · rw [if_pos c2, take1 _ _ (by omega), chosen_one] at el
      cases hb : keep.getD 0 false with
      | true =>
        rw [hb, if_pos rfl] at el
        rw [if_neg (fun y => y.elim (fun z => by omega) fun z => absurd z.2 (by simp)), el]
        exact .ful l st.g2 a.r a.ne a.max st.b2 st.n2 st.fin
      | false =>
        rw [hb, if_neg (by simp)] at el
        rw [if_pos (.inr ⟨by omega, rfl⟩), el]
        exact .emp st.l1.2 st.l1.1
    rw [if_neg c2, cut_ws keep _ _ _ _ _ (by omega), List.nil_append] at el
    rw [if_neg (fun y => y.elim (fun z => by omega) fun z => by omega)]
    by_cases c3 : c - l.length - 1 - 1 - 1 ≤ l.length + 1
    · rw [if_pos c3] at el
      have hp : ∀ p ∈ chosen (l.take (c - l.length - 1 - 1 - 1)) keep, p ∈ l := fun p hp => List.mem_of_mem_take (chosen_mem hp)
      rw [el]
      refine .ful l (st.g2.keep a.max fun i hi => low_get a.r hp hi) a.r a.ne a.max (apply_len _ _ st.b2 fun p q => a.r.len p (hp p q)) (by rw [applyTo_length, st.n2]) ?_
      rw [apply_over a.r (by rw [st.n2]; exact Int.le_refl _) hp]
      exact st.fin
    rw [if_neg c3, cut_ws keep _ _ _ _ _ (by omega)] at el
    simp only [List.nil_append, List.length_singleton] at el
    rw [if_pos (by omega), take1 _ _ (by omega), chosen_one] at el
    cases hb : keep.getD 0 false with
    | true =>
      rw [hb, if_pos rfl] at el
      rw [el]
      exact .emp st.zero st.fin
    | false =>
      rw [hb, if_neg (by simp)] at el
      have el : S'.lasts = applyTo (applyTo (applyTo S.lasts (logL l)) [(1, hdrOf l)]) l := el
      rw [el]
      refine .ful l (st.g2.keep a.max fun i hi => low_get a.r (fun _ h => h) hi) a.r a.ne a.max (apply_len _ _ st.b2 a.r.len) (by show (applyTo _ l).length = N; rw [applyTo_length, st.n2]) ?_
      show Al N (applyTo (applyTo (applyTo (applyTo (applyTo S.lasts (logL l)) [(1, hdrOf l)]) l) l) _) _
      rw [apply_over a.r (by rw [st.n2]; exact Int.le_refl _) fun _ h => h]
      exact st.fin
theorem emp_held {N : Nat} {L : List (List UInt8)} (hN : 98 ≤ N) (hL : L.length = N) (hz : L[1]? = some (Hd.zeros 512)) : heldM (fresh L) = ([], 0) :=
  Clean.held ⟨⟨rfl, rfl⟩, rfl, by show 98 ≤ L.length; omega, hz⟩
theorem Hol.len {N : Nat} {L w : List (List UInt8)} (h : Hol N L w) : L.length = N ∧ ∀ x ∈ L, x.length = 512 := by
  cases h with
  | emp _ a => exact ⟨a.1, a.2.2.1⟩
  | ful l _ _ _ _ h5 hn _ => exact ⟨hn, h5⟩
end Go.Proofs.YtjdcbblgaoogmaaGreatDoor.Wc
namespace Go.Proofs.YtjdcbblgaoogmaaGreatDoor.Wd
open Go Go.Proofs Wx Hp W Ad Wc Rf
theorem number6_spec {a : Option Addr} {l c : Nat} {bs : List UInt8} {h : Heap} {K : Value → Heap → Prop} (B : StrAt h a l bs) (hl : l ≤ 7) (hK : K (.int .i64 (Re.leN bs : Nat)) h) : C.boleref06_number a l c h K := by
  have hb := B.1
  refine boleref06_number.ok ⟨fun n i hh => ∃ m : Nat, m ≤ l ∧ i = (m : Int) - 1 ∧ n = ((Re.leN (bs.drop m) : Nat) : Int) ∧ h = hh, fun _ i _ => (i + 1).toNat,
    ⟨l, Nat.le_refl _, wrap_i64 (by omega) (by omega), by rw [List.drop_of_length_le (by omega)]; rfl, rfl⟩, ?_⟩
  rintro _ _ _ ⟨m, hm, rfl, rfl, rfl⟩
  refine cd (fun hlt => ?_) fun hlt => ?_
  · obtain ⟨q, rfl⟩ : ∃ q, m = q + 1 := ⟨m - 1, by omega⟩
    have hq : q < bs.length := by omega
    have e1 : ((q + 1 : Nat) : Int) - 1 = (q : Int) := by omega
    rw [e1, Int.toNat_natCast]
    refine ⟨⟨by omega, by omega⟩, byte_at B (List.getElem?_eq_getElem hq) fun p cp => ⟨_, cp, ?_⟩⟩
    have ed : bs.drop q = bs[q] :: bs.drop (q + 1) := List.drop_eq_getElem_cons hq
    have hlt2 := Re.leN_lt (bs.drop q)
    have hle : 256 ^ (bs.drop q).length ≤ 256 ^ 7 := Nat.pow_le_pow_right (by decide) (by rw [List.length_drop]; omega)
    have ee : Re.leN (bs.drop q) = bs[q].toNat + 256 * Re.leN (bs.drop (q + 1)) := by rw [ed]; rfl
    have h7 : (256 : Nat) ^ 7 = 72057594037927936 := by decide
    rw [h7] at hle
    have hb8 : bs[q].toNat < 256 := bs[q].toNat_lt
    rw [wrap_i64 (n := (Re.leN (bs.drop (q + 1)) : Int) * 256) (by omega) (by omega), wrap_i64 (n := (bs[q].toNat : Int)) (by omega) (by omega), wrap_i64 (by omega) (by omega), wrap_i64 (n := (q : Int) - 1) (by omega) (by omega)]
    refine ⟨⟨q, by omega, rfl, by rw [ee]; omega, rfl⟩, by show (((q : Int) - 1) + 1).toNat < ((q : Int) + 1).toNat; omega⟩
  · have : m = 0 := by omega
    subst this
    rw [List.drop_zero]; exact hK
theorem put_sl {h : Heap} {a : Option Addr} {l cc j : Nat} {F : Nat → Prop} {ys : List Value} {v : Value} {X : Heap → Prop} (s : Sl h 1 a l cc ys F) (hj : j < l)
    (hX : ∀ h', Fr F h h' → Sl h' 1 a l cc (ys.set j v) F → X h') : onSome a fun p => Put (Addr.add p j) v h X := by
  obtain ⟨p, rfl, cp⟩ := s.get (by omega)
  have e := s.mk
  obtain ⟨b, o, sp⟩ := p
  have e : sp = none := by simpa using e
  subst e
  obtain ⟨w1, w2⟩ := s.wr
  have hb : F b := s.2.2.1
  refine os (Put.add w1 (by omega) fun h6 d6 => hX h6 ((Fr.refl _ _).did d6 fun _ => hb) ?_)
  exact s.putAt (j := j) (new := [v]) (by rw [List.length_singleton]; omega) d6
theorem flat_set : ∀ {ls : List (List UInt8)} (_ : ∀ x ∈ ls, x.length = 512) (i : Nat) (hi : i < ls.length) {j : Nat} (_ : j < 512) (v : UInt8), ls.flatten.set (i * 512 + j) v = (ls.set i (ls[i].set j v)).flatten
  | [], _, _, hi, _, _, _ => absurd hi (Nat.not_lt_zero _)
  | a :: r, h, i, hi, j, hj, v => by
    have ha := h a (List.mem_cons_self ..)
    rw [List.flatten_cons]
    cases i with
    | zero =>
      rw [Nat.zero_mul, Nat.zero_add, List.set_append_left _ _ (by omega)]; rfl
    | succ i =>
      rw [List.set_append_right _ _ (by omega), show (i + 1) * 512 + j - a.length = i * 512 + j by omega, flat_set (fun x hx => h x (List.mem_cons_of_mem _ hx)) i (by simpa using hi) hj v]; rfl
def mixB (ls : List (List UInt8)) (i j : Nat) (blk : List UInt8) : List (List UInt8) := ls.set i (blk.take j ++ (ls.getD i []).drop j)
theorem mixB_zero {ls : List (List UInt8)} {i : Nat} (hi : i < ls.length) (blk : List UInt8) : mixB ls i 0 blk = ls := by
  unfold mixB
  rw [List.take_zero, List.nil_append, List.drop_zero]
  exact set_same (getD_some hi [])
theorem mixB_all {ls : List (List UInt8)} {i : Nat} {blk : List UInt8} (hb : blk.length = 512) (hls : ∀ x ∈ ls, x.length = 512) (hi : i < ls.length) : mixB ls i 512 blk = ls.set i blk := by
  unfold mixB
  have : (ls.getD i []).length = 512 := by
    have e := getD_some hi []
    exact hls _ (List.mem_of_getElem? e)
  rw [List.take_of_length_le (by omega), List.drop_of_length_le (by omega), List.append_nil]
theorem mixB_512 {ls : List (List UInt8)} {i j : Nat} {blk : List UInt8} (hb : blk.length = 512) (hls : ∀ x ∈ ls, x.length = 512) (hi : i < ls.length) (hj : j ≤ 512) : ∀ x ∈ mixB ls i j blk, x.length = 512 := fun x hx => by
  have e : (ls.getD i []).length = 512 := hls _ (List.mem_of_getElem? (getD_some hi []))
  rcases List.mem_or_eq_of_mem_set hx with hx | rfl
  · exact hls x hx
  · rw [List.length_append, List.length_take, List.length_drop, e, hb]; omega
theorem mixB_step {ls : List (List UInt8)} {i j : Nat} {blk : List UInt8} (hb : blk.length = 512) (hls : ∀ x ∈ ls, x.length = 512) (hi : i < ls.length) (hj : j < 512) :
    ((mixB ls i j blk).flatten.map bv).set (i * 512 + j) (bv (blk.getD j 0)) = (mixB ls i (j + 1) blk).flatten.map bv := by
  have e : (ls.getD i []).length = 512 := hls _ (List.mem_of_getElem? (getD_some hi []))
  have hl : i < (mixB ls i j blk).length := by unfold mixB; rw [List.length_set]; exact hi
  have e0 : (mixB ls i j blk)[i] = blk.take j ++ (ls.getD i []).drop j := by
    unfold mixB
    exact List.getElem_set_self _
  rw [← List.map_set, flat_set (mixB_512 hb hls hi (by omega)) i hl hj, e0]
  congr 2
  unfold mixB
  rw [List.set_set]
  congr 1
  have hjb : j < blk.length := by omega
  have eb : blk.getD j 0 = blk[j] := by rw [List.getD_eq_getElem?_getD, List.getElem?_eq_getElem hjb]; rfl
  have tl : (blk.take j).length = j := by rw [List.length_take]; omega
  rw [eb, List.set_append_right _ _ (by omega), tl, Nat.sub_self, List.drop_eq_getElem_cons (i := j) (by omega), List.set_cons_zero, List.take_succ_eq_append_getElem hjb, List.append_assoc]; rfl
theorem at528 (k : Nat) : 1 * 512 + (16 + 4 * k) = 528 + 4 * k := by omega
theorem flat_cut {ls : List (List UInt8)} (hls : ∀ x ∈ ls, x.length = 512) {i o n : Nat} {b : List UInt8} (hb : ls[i]? = some b) (ho : o + n ≤ 512) : (ls.flatten.drop (i * 512 + o)).take n = (b.drop o).take n := by
  apply List.ext_getElem?
  intro k
  rw [List.getElem?_take, List.getElem?_take]
  split
  · rename_i hk
    rw [List.getElem?_drop, List.getElem?_drop, Nat.add_assoc, flat_get hls i (show o + k < 512 by omega), hb]; rfl
  · rfl
theorem hdr_len8 {l : Nb} (hl : l.length ≤ 96) : Re.leN (((hdrOf l).drop 8).take 2) = l.length := by
  unfold hdrOf
  rw [(Hd.laid_drops _ _).1, Hd.take_app (Re.leB_length _ _), Hd.leN_leB 2 _ (by rw [List.length_map]; show l.length < 65536; omega), List.length_map]
theorem hdr_num {l : Nb} {N : Nat} (r : Rise N l) (hN : N ≤ 16384) {k : Nat} (hk : k < l.length) : Re.leN (((hdrOf l).drop (16 + 4 * k)).take 4) = l[k].1.toNat := by
  have := r.rng _ (List.getElem_mem hk)
  unfold hdrOf
  rw [← List.drop_drop, (Hd.laid_drops _ _).2.2.2, Hd.flat4_part _ k (by rw [List.length_map]; exact hk), Hd.leN_leB 4 _ (by rw [List.getElem_map]; show l[k].1.toNat < 4294967296; omega), List.getElem_map]
theorem apply_snoc (L : List (List UInt8)) (l : Nb) {k : Nat} (hk : k < l.length) : applyTo L (l.take (k + 1)) = (applyTo L (l.take k)).set l[k].1.toNat l[k].2 := by
  rw [take_snoc _ _ hk]
  unfold applyTo
  rw [List.foldl_append]; rfl
inductive Beh (L : List (List UInt8)) : List (List UInt8) → Prop where
  | emp : L[1]? = some (Hd.zeros 512) → Beh L L
  | ful (l : Nb) : Log L l → Rise L.length l → l.length ≤ 96 → Beh L (applyTo (applyTo L l) [(1, Hd.zeros 512)])
theorem hdr_first (l : Nb) : (hdrOf l)[0]? = some 66 := by unfold hdrOf; rw [Hd.laid_split]; rfl
theorem Behind6_spec {h : Heap} {a : Option Addr} {l c : Nat} {L out : List (List UInt8)} {K : Value → Heap → Prop} (B : StrAt h a l L.flatten) (hlc : l ≤ c) (h5 : ∀ x ∈ L, x.length = 512) (hN : 98 ≤ L.length ∧ L.length ≤ 16384) (H : Beh L out)
    (hK : ∀ a' c' h', Fr No h h' → Sl h' 1 a' (L.length * 512) c' (out.flatten.map bv) (From h.size) → K (.slice a' (L.length * 512) c') h') : C.boleref06_Behind a l c h K := by
  have hb := B.1
  rw [flat_512 L h5] at hb
  rw [hb] at hK
  obtain ⟨q1, q2, q3⟩ := StrAt.src B
  refine boleref06_Behind.ok ⟨_, q1, q2, q3, append_nil q1 rfl (by show l * 1 ≤ _; omega) (by omega) fun oa oc h2 f2 s2 => ?_⟩
  have hl2 : ¬ (l : Int) < 50176 := by omega
  rw [decide_eq_false hl2]
  refine cf rfl ⟨⟨by decide, by omega⟩, ?_⟩
  have g1 : ∀ {b : List UInt8} {y : UInt8}, L[1]? = some b → b[0]? = some y → L.flatten[512]? = some y := fun {b y} e1 e2 => by
    have := flat_get h5 1 (j := 0) (by decide)
    rw [e1] at this
    exact this.trans e2
  have B2 := StrAt.fr f2 B fun _ _ y => y
  cases H with
  | emp hz => exact byte_at B2 (g1 hz rfl) fun p cp => ⟨_, cp, ct rfl (hK oa oc h2 f2 s2)⟩
  | ful lg g r hl =>
    refine byte_at B2 (g1 g.head (hdr_first lg)) fun p cp => ⟨_, cp, cf rfl ?_⟩
    unfold boleref06_Behind.k1
    have el : ∀ x ∈ lg, x.2.length = 512 := r.len
    have A5 : ∀ k, ∀ x ∈ applyTo L (lg.take k), x.length = 512 := fun k => apply_len _ _ h5 fun p hp => r.len p (List.mem_of_mem_take hp)
    have An : ∀ k, (applyTo L (lg.take k)).length = L.length := fun k => applyTo_length _ _
    refine ⟨fun n hh => ∃ k : Nat, n = k ∧ k ≤ lg.length ∧ Fr No h hh ∧ Sl hh 1 oa l oc ((applyTo L (lg.take k)).flatten.map bv) (From h.size), fun n _ => ((lg.length : Int) - n).toNat, ⟨0, rfl, Nat.zero_le _, f2, s2⟩, ?_⟩
    rintro _ h3 ⟨k, rfl, hk, f3, s3⟩
    have B3 := StrAt.fr f3 B fun _ _ y => y
    have BC := Re.StrAt.cut B3 hlc (i := 520) (j := 522) (by omega) (by omega)
    have e8 : Re.leN ((L.flatten.drop 520).take (522 - 520)) = lg.length := by
      have := flat_cut h5 (i := 1) (o := 8) (n := 2) g.head (by decide)
      rw [show 1 * 512 + 8 = 520 from rfl] at this
      rw [this, hdr_len8 hl]
    refine ⟨⟨by omega, by omega, by omega⟩, number6_spec BC (by decide) ⟨_, rfl, ?_⟩⟩
    rw [e8]
    refine cd (fun hlt => ?_) fun hlt => ?_
    · have hk' : k < lg.length := by omega
      have rk := r.rng _ (List.getElem_mem hk')
      have lk := r.len _ (List.getElem_mem hk')
      have w1 : IntKind.wrap .i64 (528 + IntKind.wrap .i64 (4 * (k : Int))) = ((528 + 4 * k : Nat) : Int) := by rw [wrap_i64 (n := 4 * (k : Int)) (by omega) (by omega), wrap_i64 (by omega) (by omega)]; omega
      have w2 : IntKind.wrap .i64 (532 + IntKind.wrap .i64 (4 * (k : Int))) = ((532 + 4 * k : Nat) : Int) := by rw [wrap_i64 (n := 4 * (k : Int)) (by omega) (by omega), wrap_i64 (by omega) (by omega)]; omega
      rw [w1, w2, Int.toNat_natCast, Int.toNat_natCast]
      have BC2 := Re.StrAt.cut B3 hlc (i := 528 + 4 * k) (j := 532 + 4 * k) (by omega) (by omega)
      have e4 : Re.leN ((L.flatten.drop (528 + 4 * k)).take (532 + 4 * k - (528 + 4 * k))) = lg[k].1.toNat := by
        have := flat_cut h5 (i := 1) (o := 16 + 4 * k) (n := 4) g.head (by omega)
        rw [at528] at this
        rw [show 532 + 4 * k - (528 + 4 * k) = 4 by omega, this, hdr_num r (by omega) hk']
      refine ⟨⟨by omega, by omega, by omega⟩, number6_spec BC2 (by omega) ⟨_, rfl, ?_⟩⟩
      rw [e4]
      obtain ⟨i, ei⟩ : ∃ i, i = lg[k].1.toNat := ⟨_, rfl⟩
      rw [← ei]
      have hi : i < L.length := by omega
      have hiA : i < (applyTo L (lg.take k)).length := by rw [An]; exact hi
      refine ⟨fun n hh => ∃ j : Nat, n = j ∧ j ≤ 512 ∧ Fr No h hh ∧ Sl hh 1 oa l oc ((mixB (applyTo L (lg.take k)) i j lg[k].2).flatten.map bv) (From h.size), fun n _ => (((512 : Nat) : Int) - n).toNat, ⟨0, rfl, Nat.zero_le _, f3, by rw [mixB_zero hiA]; exact s3⟩, ?_⟩
      intro n6 h6 I6
      obtain ⟨j, en, hj, f6, s6⟩ := I6
      subst en
      generalize hq : decide ((j : Int) < 512) = q
      refine cs (fun hlt2 => ?_) fun hlt2 => ?_
      · have hlt2 := of_decide_eq_true (hq.trans hlt2)
        have hj' : j < 512 := by omega
        have w3 : IntKind.wrap .i64 (IntKind.wrap .i64 (IntKind.wrap .i64 (2 + (k : Int)) * 512) + (j : Int)) = (((2 + k) * 512 + j : Nat) : Int) := by
          rw [wrap_i64 (n := 2 + (k : Int)) (by omega) (by omega), wrap_i64 (n := (2 + (k : Int)) * 512) (by omega) (by omega), wrap_i64 (by omega) (by omega)]; omega
        have w4 : IntKind.wrap .i64 (IntKind.wrap .i64 ((i : Int) * 512) + (j : Int)) = ((i * 512 + j : Nat) : Int) := by
          rw [wrap_i64 (n := (i : Int) * 512) (by omega) (by omega), wrap_i64 (by omega) (by omega)]; omega
        rw [w3, w4, Int.toNat_natCast, Int.toNat_natCast, wrap_i64 (n := (j : Int) + 1) (by omega) (by omega)]
        have hjb : j < lg[k].2.length := by omega
        have gb : L.flatten[(2 + k) * 512 + j]? = some (lg[k].2.getD j 0) := by
          rw [flat_get h5 (2 + k) hj', g.data k hk']
          show lg[k].2[j]? = _
          rw [List.getD_eq_getElem?_getD, List.getElem?_eq_getElem hjb]; rfl
        refine ⟨⟨by omega, by omega⟩, byte_at (StrAt.fr f6 B fun _ _ y => y) gb fun p2 cp2 => ⟨_, cp2, ⟨by omega, by omega⟩, put_sl s6 (by omega) fun h7 f7 s7 => ⟨⟨j + 1, rfl, by omega, f6.trans f7 fun b hb y => by have y : h.size ≤ b := y; omega, ?_⟩, falls (m := 512) hlt2⟩⟩⟩
        rw [← mixB_step lk (A5 k) hiA hj']
        exact s7
      · have hlt2 := of_decide_eq_false (hq.trans hlt2)
        have : j = 512 := by omega
        subst this
        rw [mixB_all lk (A5 k) hiA, ei, ← apply_snoc L lg hk'] at s6
        rw [wrap_i64 (n := (k : Int) + 1) (by omega) (by omega)]
        exact ⟨⟨k + 1, rfl, by omega, f6, s6⟩, falls hlt⟩
    · have : k = lg.length := by omega
      subst this
      rw [List.take_length] at s3
      have A5' := A5 lg.length
      have An' := An lg.length
      rw [List.take_length] at A5' An'
      have h1A : 1 < (applyTo L lg).length := by omega
      refine ⟨fun n hh => ∃ j : Nat, n = j ∧ j ≤ 512 ∧ Fr No h hh ∧ Sl hh 1 oa l oc ((mixB (applyTo L lg) 1 j (Hd.zeros 512)).flatten.map bv) (From h.size), fun n _ => (((512 : Nat) : Int) - n).toNat, ⟨0, rfl, Nat.zero_le _, f3, by rw [mixB_zero h1A]; exact s3⟩, ?_⟩
      intro n6 h6 I6
      obtain ⟨j, en, hj, f6, s6⟩ := I6
      subst en
      generalize hq : decide ((j : Int) < 512) = q
      refine cs (fun hlt2 => ?_) fun hlt2 => ?_
      · have hlt2 := of_decide_eq_true (hq.trans hlt2)
        have hj' : j < 512 := by omega
        have w3 : IntKind.wrap .i64 (512 + (j : Int)) = ((1 * 512 + j : Nat) : Int) := by rw [wrap_i64 (by omega) (by omega)]; omega
        rw [w3, Int.toNat_natCast, wrap_i64 (n := (j : Int) + 1) (by omega) (by omega)]
        refine ⟨⟨by omega, by omega⟩, put_sl s6 (by omega) fun h7 f7 s7 => ⟨⟨j + 1, rfl, by omega, f6.trans f7 fun b hb y => by have y : h.size ≤ b := y; omega, ?_⟩, falls (m := 512) hlt2⟩⟩
        rw [← mixB_step (Hd.zeros_length _) A5' h1A hj']
        have ez : (Hd.zeros 512).getD j 0 = 0 := by
          rw [List.getD_eq_getElem?_getD]
          unfold Hd.zeros
          rw [List.getElem?_replicate, if_pos hj']; rfl
        rw [ez]
        exact s7
      · have hlt2 := of_decide_eq_false (hq.trans hlt2)
        have : j = 512 := by omega
        subst this
        rw [mixB_all (Hd.zeros_length _) A5' h1A] at s6
        exact hK oa oc h6 f6 s6
end Go.Proofs.YtjdcbblgaoogmaaGreatDoor.Wd
namespace Go.Proofs.YtjdcbblgaoogmaaGreatDoor.Wc
open Go Go.Proofs Wx Hp W Ad
structure Cn (B : Int) (S : RD) : Prop where
  w0 : 0 ≤ S.writes
  w1 : S.writes ≤ B
  f0 : 0 ≤ S.flushes
  f1 : S.flushes ≤ B
  l0 : 0 ≤ S.left
theorem Cn.mono {B C : Int} {S : RD} (c : Cn B S) (h : B ≤ C) : Cn C S := ⟨c.w0, Int.le_trans c.w1 h, c.f0, Int.le_trans c.f1 h, c.l0⟩
theorem step_cn {S : RD} {f : RD → RD} {B : Int} (c : Cn B S) (hf : ∀ S', Cn B S' → Cn B (f S') ∧ (f S').lasts.length = S'.lasts.length) : Cn B (S.step f).1 ∧ (S.step f).1.lasts.length = S.lasts.length := by
  unfold RD.step
  have l0 := c.l0
  by_cases a : 0 < S.left
  · rw [if_pos a]
    by_cases b : S.left - 1 = 0
    · rw [if_pos b]
      exact ⟨⟨c.w0, c.w1, c.f0, c.f1, Int.le_refl _⟩, applyTo_length _ _⟩
    · rw [if_neg b]
      exact hf { S with left := S.left - 1 } ⟨c.w0, c.w1, c.f0, c.f1, by show 0 ≤ S.left - 1; omega⟩
  · rw [if_neg a]; exact hf S c
theorem on_cn {S : RD} {B : Int} (s : Stp) (c : Cn B S) (hB : B < 1000000000) : Cn (B + 1) (s.on S).1 ∧ (s.on S).1.lasts.length = S.lasts.length := by
  have no : Cn (B + 1) S ∧ S.lasts.length = S.lasts.length := ⟨c.mono (by omega), rfl⟩
  have w0 := c.w0
  have w1 := c.w1
  have f0 := c.f0
  have f1 := c.f1
  cases s with
  | w i b =>
    show Cn (B + 1) (S.write i b).1 ∧ (S.write i b).1.lasts.length = _
    unfold RD.write
    split
    · exact no
    · split
      · exact no
      · split
        · exact no
        · refine step_cn (S := S.putW i b) ⟨?_, ?_, c.f0, by show S.flushes ≤ _; omega, c.l0⟩ fun S' h => ⟨h, rfl⟩
          · show 0 ≤ IntKind.wrap .i64 (S.writes + 1)
            rw [wrap_i64 (by omega) (by omega)]; omega
          · show IntKind.wrap .i64 (S.writes + 1) ≤ _
            rw [wrap_i64 (by omega) (by omega)]; omega
  | f =>
    show Cn (B + 1) S.flush.1 ∧ S.flush.1.lasts.length = _
    unfold RD.flush
    split
    · exact no
    · refine step_cn (S := { S with flushes := IntKind.wrap .i64 (S.flushes + 1) }) ⟨c.w0, by show S.writes ≤ _; omega, ?_, ?_, c.l0⟩ fun S' h => ⟨⟨h.w0, h.w1, h.f0, h.f1, h.l0⟩, applyTo_length _ _⟩
      · show 0 ≤ IntKind.wrap .i64 (S.flushes + 1)
        rw [wrap_i64 (by omega) (by omega)]; omega
      · show IntKind.wrap .i64 (S.flushes + 1) ≤ _
        rw [wrap_i64 (by omega) (by omega)]; omega
theorem runS_cn : ∀ (xs : List Stp) {S : RD} {B : Int}, Cn B S → B + xs.length < 1000000000 → Cn (B + xs.length) (runS xs S).1 ∧ (runS xs S).1.lasts.length = S.lasts.length
  | [], S, B, c, _ => ⟨c.mono (by omega), rfl⟩
  | s :: r, S, B, c, hB => by
    rw [List.length_cons] at hB ⊢
    obtain ⟨a, b⟩ := on_cn s c (by omega)
    have e : runS (s :: r) S = if (s.on S).2 = 0 then runS r (s.on S).1 else s.on S := rfl
    rw [e]
    split
    · obtain ⟨c2, d⟩ := runS_cn r a (by omega)
      exact ⟨c2.mono (by omega), d.trans b⟩
    · exact ⟨a.mono (by omega), b⟩
theorem wal_cn {S : RD} {B : Int} (c : Cn B S) (hB : B + 198 < 1000000000) (l : Nb) : Cn (B + 198) (wal S l).1 ∧ (wal S l).1.lasts.length = S.lasts.length := by
  have no : Cn (B + 198) S ∧ S.lasts.length = S.lasts.length := ⟨c.mono (by omega), rfl⟩
  unfold wal
  split
  · exact no
  · split
    · exact no
    · rename_i hm
      have := mayW_len (l := l) (n := S.lasts.length) (by cases e : mayW l S.lasts.length <;> simp_all)
      split
      · exact no
      · split
        · exact no
        · have hl := commitS_len l (hdrOf l)
          obtain ⟨a, b⟩ := runS_cn (commitS l (hdrOf l)) c (by rw [hl]; omega)
          rw [hl] at a
          exact ⟨a.mono (by omega), b⟩
structure Lg (S : RD) : Prop where
  on : S.down = false → S.pend = [] ∧ (98 ≤ S.lasts.length → S.lasts[1]? = some (Hd.zeros 512))
  out : S.down = true → 98 ≤ S.lasts.length ∧ ∃ w, Hol S.lasts.length S.lasts w
theorem run_pend {xs : List Stp} {S S' : RD} (h : runS (xs ++ [.f]) S = (S', 0)) : S'.pend = [] := by
  rw [runS_app] at h
  split at h
  · have h : (if (runS xs S).1.flush.2 = 0 then ((runS xs S).1.flush.1, (0 : Int)) else (runS xs S).1.flush) = (S', 0) := h
    have h2 : (runS xs S).1.flush = (S', 0) := by
      split at h
      · rename_i e
        rw [← h, ← e]
      · exact h
    generalize (runS xs S).1 = D at h2
    unfold RD.flush at h2
    split at h2
    · cases h2
    · unfold RD.step at h2
      split at h2
      · split at h2
        · cases h2
        · cases h2; rfl
      · cases h2; rfl
  · rename_i e
    rw [h] at e
    exact absurd rfl e
theorem commit_last (l : Nb) (hdr : List UInt8) : commitS l hdr = (ws (logL l) ++ [.f, .w 1 hdr, .f] ++ (ws l ++ [.f, .w 1 (Hd.zeros 512)])) ++ [.f] := by
  unfold commitS homeS
  simp only [List.append_assoc, List.cons_append, List.nil_append]
theorem okGo_up {n : Int} : ∀ {l : List Int} {last : Int}, Hd.okGo n last l = true → l.Pairwise (· < ·) ∧ ∀ x ∈ l, last < x ∧ x < n
  | [], _, _ => ⟨List.Pairwise.nil, fun x hx => by cases hx⟩
  | a :: r, last, h => by
    have h : (!(decide (a ≤ last) || decide (a ≥ n)) && Hd.okGo n a r) = true := h
    rw [Bool.and_eq_true, Bool.not_eq_true', Bool.or_eq_false_iff, decide_eq_false_iff_not, decide_eq_false_iff_not] at h
    obtain ⟨⟨h1, h2⟩, h3⟩ := h
    obtain ⟨p, q⟩ := okGo_up h3
    refine ⟨List.pairwise_cons.mpr ⟨fun x hx => (q x hx).1, p⟩, fun x hx => ?_⟩
    rcases List.mem_cons.mp hx with rfl | hx
    · omega
    · have := q x hx; omega
theorem may_rise {l : Nb} {n : Int} (h : mayW l n = true) (h5 : ∀ p ∈ l, p.2.length = 512) : Rise n l := by
  unfold mayW at h
  rw [Bool.and_eq_true] at h
  obtain ⟨p, q⟩ := okGo_up h.1
  exact ⟨p, fun x hx => by have := q _ (List.mem_map.mpr ⟨x, hx, rfl⟩); omega, h5⟩
theorem Lg.wal {S : RD} {l : Nb} {B : Int} (g : Lg S) (b : ∀ x ∈ S.lasts, x.length = 512) (c : Cn B S) (hB : B ≤ 100000000) (hN : S.lasts.length ≤ 16384) (hm : mayW l S.lasts.length = true) (h5 : ∀ p ∈ l, p.2.length = 512) : Lg (wal S l).1 := by
  by_cases e : l = []
  · subst e
    have : Wc.wal S [] = (S, 0) := if_pos rfl
    rw [this]; exact g
  have r := may_rise hm h5
  have hl := mayW_len hm
  have hall : (l.map (·.2)).all (fun d => d.length == 512) = true := List.all_eq_true.mpr fun d hd => by
    obtain ⟨p, h1, rfl⟩ := List.mem_map.mp hd
    exact beq_iff_eq.mpr (h5 p h1)
  have ew := wal_run e hm hall
  cases hd : S.down with
  | true =>
    rw [ew, runS_down hd (commitS_ne _ _)]; exact g
  | false =>
  obtain ⟨p, hp⟩ : ∃ p, p ∈ l := by
    cases l with
    | nil => exact absurd rfl e
    | cons p _ => exact ⟨p, List.mem_cons_self ..⟩
  have hp := r.rng p hp
  have hn : 98 ≤ S.lasts.length := by omega
  obtain ⟨pe, hz⟩ := g.on hd
  have hz := hz hn
  have st := stations hn rfl hz b r hl
  have w0 := c.w0
  have w1 := c.w1
  have f0 := c.f0
  have f1 := c.f1
  have l0 := c.l0
  by_cases h0 : S.left = 0
  · obtain ⟨S', d, er⟩ := run_commit l (hdrOf l) S ⟨hd, h0⟩ (fun p hp => by
      have := r.rng p hp
      exact ⟨by omega, this.2, h5 p hp⟩) (hdr_len hl) hn hl w0 (by omega) f0 (by omega)
    rw [ew, er]
    refine ⟨fun _ => ⟨d.pend, fun _ => ?_⟩, fun y => by have y : S'.down = true := y; rw [d.q.down] at y; cases y⟩
    show S'.lasts[1]? = _
    rw [d.lasts, pe, List.nil_append]
    exact st.zero
  · have a : Rdy S.lasts.length S l := ⟨hd, pe, rfl, ⟨hn, hN⟩, hz, b, r, e, hl⟩
    obtain ⟨k, ek⟩ : ∃ k : Nat, S.left = k := ⟨S.left.toNat, by omega⟩
    obtain ⟨A, C⟩ := commit_cut a ek (by omega) rfl
    by_cases hlt : 2 * l.length + 6 < k
    · obtain ⟨A', _⟩ := run_armed S.keep (commitS l (hdrOf l)) S k hd ek rfl (by omega) (commit_valid hn r hl (hdr_len hl))
      rw [commit_len, pe] at A'
      obtain ⟨S', er, d, el⟩ := A' hlt
      rw [commit_form, sem_ws, sem_ws, sem_ws, sem_ws] at el
      simp only [List.nil_append] at el
      have el : S'.lasts = applyTo (applyTo (applyTo (applyTo S.lasts (logL l)) [(1, hdrOf l)]) l) [(1, Hd.zeros 512)] := el
      rw [ew, er]
      refine ⟨fun _ => ⟨?_, fun _ => ?_⟩, fun y => by have y : S'.down = true := y; rw [d] at y; cases y⟩
      · rw [commit_last] at er
        exact run_pend er
      · show S'.lasts[1]? = _
        rw [el]; exact st.zero
    · obtain ⟨S', er, d, hol⟩ := C (by omega)
      rw [er]
      have hn' := hol.len.1
      refine ⟨fun y => (by have y : S'.down = false := y; rw [d] at y; cases y), fun _ => ⟨by show 98 ≤ S'.lasts.length; omega, _, by show Hol S'.lasts.length S'.lasts _; rw [hn']; exact hol⟩⟩
theorem Hol.recover {N : Nat} {L w : List (List UInt8)} (hn : 98 ≤ N ∧ N ≤ 16384) (h : Hol N L w) : ∃ S' m out, recM (fresh L) = (S', m, 0) ∧ S'.lasts = out ∧ Wd.Beh L out ∧ out.length = N ∧ (∀ x ∈ out, x.length = 512) ∧ out[1]? = some (Hd.zeros 512) := by
  have hlen := h.len
  cases h with
  | emp hz a =>
    refine ⟨fresh L, 0, L, ?_, rfl, .emp hz, hlen.1, hlen.2, hz⟩
    unfold recM
    rw [emp_held hn.1 a.1 hz, if_neg (fun y => y rfl), if_pos rfl]
  | ful l g r hne hl h5 hL a =>
    have e := g.held (by omega) (by omega) (by rw [hL]; exact r) hne hl
    have zero : (applyTo (applyTo L l) [(1, Hd.zeros 512)])[1]? = some (Hd.zeros 512) := one_at (by rw [applyTo_length, hL]; omega)
    have q : Quiet (fresh L) := ⟨rfl, rfl⟩
    have hLn : (fresh L).lasts.length = N := hL
    obtain ⟨S2, er, q2, el, ep, _, _, _, _⟩ := home_run (S := fresh L) (l := l) q rfl ⟨Int.le_refl _, by show (0 : Int) ≤ _; omega⟩ ⟨Int.le_refl _, by show (0 : Int) ≤ _; omega⟩ (by rw [hLn]; exact hn.1) (fun p hp => by
      have := r.rng p hp
      rw [hLn]
      exact ⟨by omega, this.2, r.len p hp⟩) hl
    refine ⟨S2, (l.length : Int), applyTo (applyTo L l) [(1, Hd.zeros 512)], ?_, el, .ful l g (by rw [hL]; exact r) hl, by rw [applyTo_length, applyTo_length, hL], one_len (apply_len _ _ h5 r.len) (Hd.zeros_length 512), zero⟩
    unfold recM
    rw [e, if_neg (fun y => y rfl), if_neg hne, er]
    exact if_neg (fun y => y rfl)
theorem Lg.new {L : List (List UInt8)} (hz : 98 ≤ L.length → L[1]? = some (Hd.zeros 512)) : Lg (fresh L) := ⟨fun _ => ⟨rfl, hz⟩, fun y => by cases y⟩
theorem Cn.new (L : List (List UInt8)) : Cn 0 (fresh L) := ⟨Int.le_refl _, Int.le_refl _, Int.le_refl _, Int.le_refl _, Int.le_refl _⟩
theorem Lg.arm {S : RD} (g : Lg S) (n : Int) (keep : List Bool) : Lg (S.arm n keep).1 := by
  unfold RD.arm
  split
  · exact g
  · exact ⟨g.on, g.out⟩
theorem Cn.arm {S : RD} {B : Int} (c : Cn B S) (n : Int) (keep : List Bool) : Cn B (S.arm n keep).1 := by
  unfold RD.arm
  split
  · exact c
  · refine ⟨c.w0, c.w1, c.f0, c.f1, ?_⟩
    show 0 ≤ if (0 : Int) > n then 0 else n
    split <;> omega
end Go.Proofs.YtjdcbblgaoogmaaGreatDoor.Wc
namespace Go.Proofs.YtjdcbblgaoogmaaGreatDoor.Ap
open Go Go.Proofs Wx Hp W Ad
theorem slBound {h : Heap} {ec l c : Nat} {a : Option Addr} {xs : List Value} {F : Nat → Prop} (s : Sl h ec a l c xs F) : Sl h ec a l c xs (fun b => F b ∧ b < h.size) := by
  obtain ⟨h1, h2⟩ := s
  refine ⟨h1, ?_⟩
  cases a with
  | none => exact h2
  | some p => obtain ⟨a1, a2, a3, a4⟩ := h2; exact ⟨a1, ⟨a2, a3.lt⟩, a3, a4⟩
end Go.Proofs.YtjdcbblgaoogmaaGreatDoor.Ap
namespace Go.Proofs.YtjdcbblgaoogmaaGreatDoor.Ap
open Go Go.Proofs Wx Hp W Ad L3 Rf
structure Hb where
  a : Option Addr
  l : Nat
  c : Nat
  n : Nat
  mark : UInt8
  want : List UInt8
  kept : Bool
  bs : List UInt8
def Hb.cells (x : Hb) : List Value := [.slice x.a x.l x.c, .int .i64 (x.n : Nat), bv x.mark, .string (mkStr x.want), .bool x.kept]
theorem Hb.one (x : Hb) : ∀ v ∈ x.cells, v.oneCell' = true := by
  intro v hv
  simp only [Hb.cells, List.mem_cons, List.not_mem_nil, or_false] at hv
  rcases hv with rfl | rfl | rfl | rfl | rfl <;> rfl
structure Hb.Ok (h : Heap) (col : Nat → Nat) (k : Nat) (x : Hb) : Prop where
  sl : Sl h 1 x.a x.l x.c (x.bs.map bv) (On col k)
  yes : x.kept = true → x.bs = x.want ∧ x.n = x.l
  no : x.kept = false → x.bs = List.replicate (x.n + 3) x.mark
  max : x.n ≤ 140737488355000
theorem Hb.Ok.keep {h h' : Heap} {col col' : Nat → Nat} {k : Nat} {x : Hb} (o : x.Ok h col k) {F : Nat → Prop} (f : Fr F h h') (g : Ag h.size col col') (hF : ∀ b, col b = k → ¬ F b) : x.Ok h' col' k :=
  ⟨o.sl.keep f g hF, o.yes, o.no, o.max⟩
def Hb.grow (x : Hb) (a : Option Addr) (c : Nat) : Hb := { x with a := a, l := x.n + 3, c := c, bs := List.replicate (x.n + 3) x.mark }
theorem grown_spec {h : Heap} {col : Nat → Nat} {k : Nat} {x : Hb} {K : Value → Heap → Prop} (s : Sl h 1 x.a x.l x.c (x.bs.map bv) (On col k)) (hl : x.n = x.l) (hm : x.n ≤ 140737488355000)
    (hK : ∀ a c h', Fr (On col k) h h' → Sl h' 1 a (x.n + 3) c ((List.replicate (x.n + 3) x.mark).map bv) (On (upd col h.size k) k) → K (.agg ⟨(x.grow a c).cells⟩) h') : C.bolelaw06_Held_grown x.cells h K := by
  refine bolelaw06_Held_grown.ok (New.intro fun h3 n3 => New.intro fun h4 n4 => ?_)
  have z3 := n3.size
  have z4 := n4.size
  have hbl : x.bs.length = x.l := by have := s.1; rw [List.length_map] at this; omega
  refine ⟨fun i hh => ∃ (j : Nat) (ys : List UInt8), i = j ∧ j ≤ x.n ∧ Fr (On col k) h hh ∧ rd hh h.size = x.cells ∧ Own hh h.size ∧ Own hh h3.size ∧ (rd hh h3.size).length = 5 ∧ h4.size ≤ hh.size ∧ ys.length = x.l ∧ Sl hh 1 x.a x.l x.c (ys.map bv) (fun b => On col k b ∧ b < h.size) ∧ ys.take j = List.replicate j x.mark, fun i _ => ((x.n : Int) - i).toNat,
    ⟨0, x.bs, rfl, Nat.zero_le _, (n3.fr.new n4).mono fun _ _ y => y.elim, (n4.at_ (by omega)).trans n3.rd, n4.ow n3.own, n4.own, by rw [n4.rd]; rfl, Nat.le_refl _, hbl, ((slBound s).fr n3.fr fun _ _ _ y => y).fr n4.fr fun _ _ _ y => y, rfl⟩, ?_⟩
  rintro i h5 ⟨j, ys, ei, hj, f5, r5, o5, o5', l5, z5, yl, s5, ey⟩
  refine ⟨_, rda r5 rfl, cd (fun hlt => ?_) fun hlt => ?_⟩
  · have hj' : j < x.n := by omega
    have ein : i.toNat = j := by omega
    obtain ⟨p, ep, cp⟩ := s5.get (by omega)
    refine ⟨_, _, _, rda r5 rfl, _, rda r5 rfl, ⟨by omega, by omega⟩, ?_⟩
    rw [ep, ein, wrap_i64 (n := i + 1) (by omega) (by omega)]
    rw [ep] at s5
    have e := s5.mk
    obtain ⟨b, o, sp⟩ := p
    have e : sp = none := by simpa using e
    subst e
    obtain ⟨w1, w2⟩ := s5.wr
    have hb : On col k b ∧ b < h.size := s5.2.2.1
    refine os (Put.add w1 (by omega) fun h6 d6 => ?_)
    have z6 := d6.size
    have s6 := s5.putAt (j := j) (new := [bv x.mark]) (by rw [List.length_singleton]; omega) d6
    rw [show put (ys.map bv) j [bv x.mark] = (ys.map bv).set j (bv x.mark) from rfl, ← List.map_set] at s6
    refine ⟨⟨j + 1, ys.set j x.mark, by omega, by omega, f5.did d6 fun _ => hb.1, (d6.at_ (by omega) (by omega)).trans r5, d6.ow o5, d6.ow o5', by rw [d6.at_ (by omega) (by omega)]; exact l5, by omega, by rw [List.length_set]; exact yl, s6, ?_⟩, by show ((x.n : Int) - (i + 1)).toNat < ((x.n : Int) - i).toNat; omega⟩
    rw [take_snoc _ _ (by rw [List.length_set]; omega), List.getElem_set_self, List.take_set_of_le (Nat.le_refl _), ey, List.replicate_succ']
  · have ej : j = x.n := by omega
    have eys : ys = List.replicate x.n x.mark := by rw [← ej, ← ey, List.take_of_length_le (by omega)]
    refine ⟨_, _, _, rda r5 rfl, _, rda r5 rfl, _, rda r5 rfl, _, rda r5 rfl, New.intro fun h7 n7 => ?_⟩
    have z7 := n7.size
    refine ⟨[bv x.mark, bv x.mark, bv x.mark], rfl, cellsAll n7.rd, by intro v hv; simp only [List.mem_cons, List.not_mem_nil, or_false] at hv; rcases hv with rfl | rfl | rfl <;> rfl, ?_⟩
    refine append_own (s5.fr n7.fr fun _ _ _ y => y) rfl rfl (by show (x.l + 3) * 1 ≤ _; omega) (by omega) fun a' c' h8 f8 s8 => ?_
    have z8 := f8.size
    have nb : ∀ b, h.size ≤ b → ¬ (On col k b ∧ b < h.size) := fun b hb y => by have := y.2; omega
    have r8 : rd h8 h.size = x.cells := (f8.rd (by omega) (nb _ (Nat.le_refl _))).trans ((n7.at_ (by omega)).trans r5)
    have o8 : Own h8 h.size := f8.own (by omega) (nb _ (Nat.le_refl _)) (n7.ow o5)
    refine Put.add o8 (by rw [r8]; exact (by decide : 0 + 0 < 5)) fun h9 d9 => ?_
    have z9 := d9.size
    rw [r8] at d9
    have r9 : rd h9 h.size = (x.grow a' c').cells := by rw [d9.rd]; show _ = [Value.slice a' (x.n + 3) c', _, _, _, _]; rw [hl]; rfl
    refine ⟨_, rfl, cellsAll r9, ?_⟩
    have o9 : Own h9 h3.size := d9.ow (f8.own (by omega) (nb _ (by omega)) (n7.ow o5'))
    have l9 : (rd h9 h3.size).length = 5 := by rw [d9.at_ (by omega) (by omega), f8.rd (by omega) (nb _ (by omega)), n7.at_ (by omega)]; exact l5
    refine PutRow.intro o9 rfl (Hb.one _) (by rw [l9]; decide) fun h10 d10 => ⟨(x.grow a' c').cells, rfl, cellsAll (by rw [d10.rd]; exact put_all _ _ (by rw [l9]; rfl)), ?_⟩
    have F10 : Fr (On col k) h h10 := (((f5.new n7).trans f8 fun b hb y => y.1).did d9 fun y => by omega).did d10 fun y => by omega
    refine hK a' c' h10 F10 ?_
    have e3 : (List.replicate (x.n + 3) x.mark).map bv = ys.map bv ++ [bv x.mark, bv x.mark, bv x.mark] := by
      rw [eys, ← List.replicate_append_replicate, List.map_append]; rfl
    rw [e3, hl]
    have s10 : Sl h10 1 a' (x.l + 3) c' (ys.map bv ++ [bv x.mark, bv x.mark, bv x.mark]) (fun b => (On col k b ∧ b < h.size) ∨ h7.size ≤ b) := (s8.fr d9.fr fun b _ y e => by have e : b = h.size := e; exact y.elim (fun y => by have := y.2; omega) fun y => by omega).fr d10.fr fun b _ y e => by have e : b = h3.size := e; exact y.elim (fun y => by have := y.2; omega) fun y => by omega
    exact s10.mono fun b hb => by
      rcases hb with hb | hb
      · have e : upd col h.size k b = col b := ag_upd _ _ _ _ hb.2
        show upd col h.size k b = k
        rw [e]; exact hb.1
      · exact upd_ge (by omega)
end Go.Proofs.YtjdcbblgaoogmaaGreatDoor.Ap
namespace Go.Proofs.YtjdcbblgaoogmaaGreatDoor.Ap
open Go Go.Proofs Wx Hp W Ad L3 Rf
def intsV (l : List Int) : List Value := l.map (.int .i64)
structure Li where
  a : Option Addr
  l : Nat
  c : Nat
  ta : Option Addr
  tc : Nat
  vs : List Int
def Li.v (x : Li) : List Value := [.slice x.a x.l x.c]
def Li.t (x : Li) : List Value := [.slice x.ta x.l x.tc]
structure Li.Ok (h : Heap) (col : Nat → Nat) (k k2 : Nat) (x : Li) : Prop where
  s : Sl h 1 x.a x.l x.c (intsV x.vs) (On col k)
  t : Sl h 1 x.ta x.l x.tc (intsV x.vs) (On col k2)
  max : x.l ≤ 1000000000000
structure La where
  a : Option Addr
  l : Nat
  c : Nat
  wa : Option Addr
  wc : Nat
  es : List Ent
  ws : List Ent
def La.v (x : La) : List Value := [.slice x.a x.l x.c]
def La.t (x : La) : List Value := [.slice x.wa x.l x.wc]
structure La.Ok (h : Heap) (col : Nat → Nat) (k k2 : Nat) (x : La) : Prop where
  s : Sl h 3 x.a x.l x.c (x.es.flatMap Ent.cells) (On col k)
  t : Sl h 3 x.wa x.l x.wc (x.ws.flatMap Ent.cells) (On col k2)
  e : x.es.length = x.l ∧ x.ws.length = x.l
  same : ∀ j (h1 : j < x.es.length) (h2 : j < x.ws.length), x.es[j].kind = x.ws[j].kind ∧ x.es[j].at_ = x.ws[j].at_
  max : x.l ≤ 1000000000000
def bkV (ba : Option Addr) (bl bc : Nat) (ia : Option Addr) (il ic : Nat) (ta : Option Addr) (tc : Nat) (aa : Option Addr) (al ac : Nat) (wa : Option Addr) (wc : Nat) : List Value := [.slice ba bl bc, .slice ia il ic, .slice ta il tc]
structure Bk (h : Heap) (col : Nat → Nat) (kb : Nat) (xs : List Hb) (is : List Li) (ats : List La) (c : Nat) : Prop where
  sc : col kb = 30
  so : Own h kb
  rows : ∃ ba bc ia ic ta tc aa ac wa wc, rd h kb = bkV ba xs.length bc ia is.length ic ta tc aa ats.length ac wa wc ∧ Sl h 5 ba xs.length bc (xs.flatMap Hb.cells) (On col 31) ∧ Sl h 1 ia is.length ic (is.flatMap Li.v) (On col 32) ∧ Sl h 1 ta is.length tc (is.flatMap Li.t) (On col 33) ∧ Sl h 1 aa ats.length ac (ats.flatMap La.v) (On col 34) ∧ Sl h 1 wa ats.length wc (ats.flatMap La.t) (On col 35)
  bx : ∀ i (hi : i < xs.length), xs[i].Ok h col (40 + 5 * i)
  bi : ∀ i (hi : i < is.length), is[i].Ok h col (41 + 5 * i) (42 + 5 * i)
  ba : ∀ i (hi : i < ats.length), ats[i].Ok h col (43 + 5 * i) (44 + 5 * i)
  nx : xs.length ≤ c
  ni : is.length ≤ c
  na : ats.length ≤ c
section
variable {h h' : Heap} {col col' : Nat → Nat} {kb c : Nat} {xs : List Hb} {is : List Li} {ats : List La}
theorem Bk.keep (B : Bk h col kb xs is ats c) {F : Nat → Prop} (f : Fr F h h') (g : Ag h.size col col') (hF : ∀ b, 30 ≤ col b → ¬ F b) : Bk h' col' kb xs is ats c := by
  obtain ⟨ba, bc, ia, ic, ta, tc, aa, ac, wa, wc, r, s1, s2, s3, s4, s5⟩ := B.rows
  have q : ∀ k, 30 ≤ k → ∀ b, col b = k → ¬ F b := fun k hk b hb => hF b (by omega)
  have hb := B.so.lt
  have nb := hF kb (by rw [B.sc]; exact Nat.le_refl _)
  exact ⟨(g _ hb).trans B.sc, f.own hb nb B.so, ⟨ba, bc, ia, ic, ta, tc, aa, ac, wa, wc, (f.rd hb nb).trans r, s1.keep f g (q 31 (by decide)), s2.keep f g (q 32 (by decide)), s3.keep f g (q 33 (by decide)), s4.keep f g (q 34 (by decide)), s5.keep f g (q 35 (by decide))⟩,
    fun i hi => (B.bx i hi).keep f g (q _ (by omega)), fun i hi => ⟨(B.bi i hi).s.keep f g (q _ (by omega)), (B.bi i hi).t.keep f g (q _ (by omega)), (B.bi i hi).max⟩, fun i hi => ⟨(B.ba i hi).s.keep f g (q _ (by omega)), (B.ba i hi).t.keep f g (q _ (by omega)), (B.ba i hi).e, (B.ba i hi).same, (B.ba i hi).max⟩, B.nx, B.ni, B.na⟩
theorem Bk.no (B : Bk h col kb xs is ats c) (f : Fr No h h') (g : Ag h.size col col') : Bk h' col' kb xs is ats c := B.keep f g fun _ _ y => y
theorem Bk.le (B : Bk h col kb xs is ats c) {c' : Nat} (hc : c ≤ c') : Bk h col kb xs is ats c' := { B with nx := Nat.le_trans B.nx hc, ni := Nat.le_trans B.ni hc, na := Nat.le_trans B.na hc }
theorem Bk.only (B : Bk h col kb xs is ats c) {k : Nat} (f : Fr (On col k) h h') (g : Ag h.size col col') (hk : ∀ i, (i < xs.length → k ≠ 40 + 5 * i) ∧ (i < is.length → k ≠ 41 + 5 * i ∧ k ≠ 42 + 5 * i) ∧ (i < ats.length → k ≠ 43 + 5 * i ∧ k ≠ 44 + 5 * i)) (h40 : 40 ≤ k) : Bk h' col' kb xs is ats c := by
  obtain ⟨ba, bc, ia, ic, ta, tc, aa, ac, wa, wc, r, s1, s2, s3, s4, s5⟩ := B.rows
  have q : ∀ k', k' ≠ k → ∀ b, col b = k' → ¬ On col k b := fun k' hk' b hb y => hk' (hb.symm.trans y)
  have hb := B.so.lt
  have nb := q 30 (by omega) kb B.sc
  exact ⟨(g _ hb).trans B.sc, f.own hb nb B.so, ⟨ba, bc, ia, ic, ta, tc, aa, ac, wa, wc, (f.rd hb nb).trans r, s1.keep f g (q 31 (by omega)), s2.keep f g (q 32 (by omega)), s3.keep f g (q 33 (by omega)), s4.keep f g (q 34 (by omega)), s5.keep f g (q 35 (by omega))⟩,
    fun i hi => (B.bx i hi).keep f g (q _ ((hk i).1 hi).symm), fun i hi => ⟨(B.bi i hi).s.keep f g (q _ ((hk i).2.1 hi).1.symm), (B.bi i hi).t.keep f g (q _ ((hk i).2.1 hi).2.symm), (B.bi i hi).max⟩, fun i hi => ⟨(B.ba i hi).s.keep f g (q _ ((hk i).2.2 hi).1.symm), (B.ba i hi).t.keep f g (q _ ((hk i).2.2 hi).2.symm), (B.ba i hi).e, (B.ba i hi).same, (B.ba i hi).max⟩, B.nx, B.ni, B.na⟩
theorem bytes_k1 {h1 h6 : Heap} {x : Hb} {K : Value → Heap → Prop} (B : Bk h6 col kb xs is ats c) (hc : c < 1000000000000) (o : x.Ok h6 col (40 + 5 * xs.length)) (r : rd h6 h1.size = x.cells)
    (hK : ∀ h' col', Fr (fun b => col b = 30 ∨ col b = 31) h6 h' → Ag h6.size col col' → Bk h' col' kb (xs ++ [x]) is ats (c + 1) → K (.tuple #[]) h') : bolelaw06_Book_bytes.k1 (some ⟨kb, 0, none⟩) h1 h6 K := by
  obtain ⟨ba, bc, ia, ic, ta, tc, aa, ac, wa, wc, r0, s1, s2, s3, s4, s5⟩ := B.rows
  have lkb := B.so.lt
  have nx := B.nx
  unfold bolelaw06_Book_bytes.k1
  refine os ⟨_, _, _, rda r0 rfl, _, rfl, cellsAll r, rfl, New.intro fun h7 n7 => ⟨rda ((n7.at_ lkb).trans r0) rfl, _, rfl, cellsAll n7.rd, Hb.one x, ?_⟩⟩
  refine append_col (s1.fr n7.fr fun _ _ _ y => y) rfl rfl (by show (xs.length + 1) * 64 ≤ _; omega) (by omega) fun a8 c8 h8 f8 s8 => ?_
  have B7 := B.no n7.fr (Ag.refl _ _)
  have g8 : Ag h7.size col (upd col h7.size 31) := ag_upd _ _ _
  have q : ∀ k', k' ≠ 31 → ∀ b, col b = k' → ¬ On col 31 b := fun k' hk' b hb y => hk' (hb.symm.trans y)
  have lkb7 := B7.so.lt
  have nb := q 30 (by decide) kb B.sc
  have r8 := (f8.rd lkb7 nb).trans ((n7.at_ lkb).trans r0)
  refine os (Put.add (f8.own lkb7 nb B7.so) (by rw [r8]; exact (by decide : 0 + 0 < 3)) fun h9 d9 => ?_)
  rw [r8] at d9
  have z8 := f8.size
  have sc8 : upd col h7.size 31 kb = 30 := (g8 kb lkb7).trans B.sc
  have ne : ∀ k, k ≠ 30 → ∀ b, upd col h7.size 31 b = k → ¬ (fun b => b = kb) b := fun k hk b hb (y : b = kb) => by rw [y, sc8] at hb; exact hk hb.symm
  have kp : ∀ {ec : Nat} {a : Option Addr} {l c : Nat} {vs : List Value} {k : Nat}, Sl h6 ec a l c vs (On col k) → k ≠ 31 → k ≠ 30 → Sl h9 ec a l c vs (On (upd col h7.size 31) k) := fun s k1 k2 => (((s.fr n7.fr fun _ _ _ y => y).keep f8 g8 (q _ k1)).keep d9.fr (Ag.refl _ _) (ne _ k2))
  have F9 : Fr (fun b => col b = 30 ∨ col b = 31) h6 h9 := ((n7.fr.mono fun _ _ y => y.elim).trans f8 fun b _ y => .inr y).did d9 fun _ => .inl B.sc
  have okx : ∀ {y : Hb} {k : Nat}, y.Ok h6 col k → k ≠ 31 → k ≠ 30 → y.Ok h9 (upd col h7.size 31) k := fun o k1 k2 => ⟨kp o.sl k1 k2, o.yes, o.no, o.max⟩
  refine hK h9 (upd col h7.size 31) F9 (g8.le n7.fr.size) ⟨sc8, d9.own, ⟨a8, c8, ia, ic, ta, tc, aa, ac, wa, wc, ?_, ?_, kp s2 (by decide) (by decide), kp s3 (by decide) (by decide), kp s4 (by decide) (by decide), kp s5 (by decide) (by decide)⟩, fun i hi => ?_, fun i hi => ⟨kp (B.bi i hi).s (by omega) (by omega), kp (B.bi i hi).t (by omega) (by omega), (B.bi i hi).max⟩, fun i hi => ⟨kp (B.ba i hi).s (by omega) (by omega), kp (B.ba i hi).t (by omega) (by omega), (B.ba i hi).e, (B.ba i hi).same, (B.ba i hi).max⟩, by rw [List.length_append]; exact Nat.succ_le_succ nx, Nat.le_succ_of_le B.ni, Nat.le_succ_of_le B.na⟩
  · rw [d9.rd, List.length_append]; rfl
  · rw [List.length_append, List.flatMap_append]
    have e1 : List.flatMap Hb.cells [x] = x.cells := by simp
    rw [e1]
    exact s8.keep d9.fr (Ag.refl _ _) (ne _ (by decide))
  · by_cases e : i = xs.length
    · subst e
      rw [List.getElem_append_right (Nat.le_refl _)]
      simp only [Nat.sub_self, List.getElem_singleton]
      exact okx o (by omega) (by omega)
    · have hi' : i < xs.length := by rw [List.length_append] at hi; have hi : i < xs.length + 1 := hi; omega
      rw [List.getElem_append_left hi']
      exact okx (B.bx i hi') (by omega) (by omega)
theorem bytes_spec {a : Option Addr} {l cc : Nat} {bs : List UInt8} {K : Value → Heap → Prop} (B : Bk h col kb xs is ats c) (hc : c < 1000000000000) (hl : l ≤ 140737488355000) (s : Sl h 1 a l cc (bs.map bv) (On col (40 + 5 * xs.length)))
    (hK : ∀ h' col' x, Fr (fun b => col b = 30 ∨ col b = 31 ∨ col b = 40 + 5 * xs.length) h h' → Ag h.size col col' → Bk h' col' kb (xs ++ [x]) is ats (c + 1) → K (.tuple #[]) h') : C.bolelaw06_Book_bytes (some ⟨kb, 0, none⟩) a l cc h K := by
  obtain ⟨ba, bc, ia, ic, ta, tc, aa, ac, wa, wc, r0, s1, s2, s3, s4, s5⟩ := B.rows
  have nx := B.nx
  have hbl : bs.length = l := s.str.1
  obtain ⟨mk, emk⟩ : ∃ mk : UInt8, (Value.int .u8 (IntKind.wrap .u8 ((IntKind.wrap .i64 ((IntKind.wrap .i64 ((xs.length : Int) * 2)) + 1))))) = bv mk := ⟨_, Hd.bv_wrap _⟩
  refine bolelaw06_Book_bytes.ok (os ⟨_, _, _, rda r0 rfl, bs, s.str, ?_⟩)
  rw [emk]
  obtain ⟨kp, ekp⟩ : ∃ kp : Bool, ((Int.tmod (xs.length : Int) 2) == 0) = kp := ⟨_, rfl⟩
  rw [ekp]
  have ex : ([.slice a l cc, .int .i64 (l : Int), bv mk, .string (mkStr bs), .bool kp] : List Value) = Hb.cells ⟨a, l, cc, l, mk, bs, kp, bs⟩ := rfl
  rw [ex]
  refine NewRow.intro rfl (Hb.one _) rfl fun h3 n3 => ⟨_, rda n3.rd rfl, cnot ?_⟩
  have z3 := n3.size
  have g3 : Ag h.size col (upd col h.size 0) := ag_upd _ _ _
  have B3 := B.no n3.fr g3
  have s3' := s.keep n3.fr g3 fun _ _ y => y
  have F3 : Fr (fun b => col b = 30 ∨ col b = 31 ∨ col b = 40 + 5 * xs.length) h h3 := n3.fr.mono fun _ _ y => y.elim
  have dn : ∀ {c' : Nat → Nat}, Ag h.size col c' → ∀ b, b < h.size → (c' b = 30 ∨ c' b = 31) → (col b = 30 ∨ col b = 31 ∨ col b = 40 + 5 * xs.length) := fun g b hb y => by rw [g b hb] at y; exact y.elim .inl fun y => .inr (.inl y)
  cases kp with
  | true =>
    exact ct rfl (bytes_k1 B3 hc ⟨s3', fun _ => ⟨rfl, rfl⟩, fun y => (by cases y), hl⟩ n3.rd fun h' col' f g B' => hK h' col' _ (F3.trans f (dn g3)) (g3.trans g (by omega)) B')
  | false =>
    refine cf rfl ⟨_, rfl, cellsAll n3.rd, grown_spec (x := ⟨a, l, cc, l, mk, bs, false, bs⟩) s3' rfl hl fun a4 c4 h4 f4 s4' => ⟨_, rfl, ?_⟩⟩
    have z4 := f4.size
    have g4 : Ag h3.size (upd col h.size 0) (upd (upd col h.size 0) h3.size (40 + 5 * xs.length)) := ag_upd _ _ _
    have B4 := B3.only f4 g4 (fun i => ⟨fun hi => by omega, fun hi => by omega, fun hi => by omega⟩) (by omega)
    have c0 : upd col h.size 0 h.size = 0 := upd_ge (Nat.le_refl _)
    have nb : ¬ On (upd col h.size 0) (40 + 5 * xs.length) h.size := fun y => by have y : upd col h.size 0 h.size = 40 + 5 * xs.length := y; omega
    have r4 : rd h4 h.size = Hb.cells ⟨a, l, cc, l, mk, bs, false, bs⟩ := (f4.rd (by omega) nb).trans n3.rd
    have o4 := f4.own (by omega) nb n3.own
    refine PutRow.intro o4 rfl (Hb.one _) (by rw [r4]; exact (by decide : 0 + 5 ≤ 5)) fun h5 d5 => ?_
    have z5 := d5.size
    have sc0 : upd (upd col h.size 0) h3.size (40 + 5 * xs.length) h.size = 0 := (g4 _ (by omega)).trans c0
    have ne : ∀ k, k ≠ 0 → ∀ b, upd (upd col h.size 0) h3.size (40 + 5 * xs.length) b = k → ¬ (fun b => b = h.size) b := fun k hk b hb (y : b = h.size) => by rw [y, sc0] at hb; exact hk hb.symm
    have B5 := B4.keep d5.fr (Ag.refl _ _) fun b hb (y : b = h.size) => by rw [y, sc0] at hb; omega
    have s5' := s4'.keep d5.fr (Ag.refl _ _) (ne _ (by omega))
    have G5 : Ag h.size col (upd (upd col h.size 0) h3.size (40 + 5 * xs.length)) := g3.trans g4 (by omega)
    have F5 : Fr (fun b => col b = 30 ∨ col b = 31 ∨ col b = 40 + 5 * xs.length) h h5 := (F3.trans f4 fun b hb y => .inr (.inr (by have y : upd col h.size 0 b = 40 + 5 * xs.length := y; rw [g3 b hb] at y; exact y))).did d5 fun y => by omega
    refine bytes_k1 (x := Hb.grow ⟨a, l, cc, l, mk, bs, false, bs⟩ a4 c4) B5 hc ⟨s5', fun y => (by cases y), fun _ => rfl, hl⟩ (by rw [d5.rd]; exact put_all _ _ (by rw [r4]; rfl)) fun h' col' f g B' => hK h' col' _ (F5.trans f (dn G5)) (G5.trans g (by omega)) B'
end
end Go.Proofs.YtjdcbblgaoogmaaGreatDoor.Ap
namespace Go.Proofs.YtjdcbblgaoogmaaGreatDoor.Ap
open Go Go.Proofs Wx Hp W Ad L3 Rf
def Kept (h h' : Heap) (col col' : Nat → Nat) (q : Nat) : Prop := ∀ {ec : Nat} {a : Option Addr} {l c : Nat} {vs : List Value} {k : Nat}, Sl h ec a l c vs (On col k) → k ≠ 31 + q → k ≠ 30 → Sl h' ec a l c vs (On col' k)
theorem row_push {h : Heap} {col : Nat → Nat} {kb q : Nat} {xs : List Value} {ra : Option Addr} {rl rc : Nat} {sa : Option Addr} {sl sc : Nat} {cs : List Value} {X : Heap → Prop} (hs : col kb = 30) (so : Own h kb) (hr : rd h kb = cs) (h5 : cs.length = 3) (hq : q < 3) (hc : cs[q]? = some (.slice ra rl rc)) (s : Sl h 1 ra rl rc xs (On col (31 + q))) (hm : rl < 1000000000000) {ti : TI} {tb : Nat} (t1 : ti.cells = 1) (t2 : ti.zero.length = ti.cells) (t3 : ti.bytes = 24)
    (hX : ∀ h' a c col', Fr (fun b => col b = 30 ∨ col b = 31 + q) h h' → Ag h.size col col' → rd h' kb = cs.set q (.slice a (rl + 1) c) → Own h' kb → Sl h' 1 a (rl + 1) c (xs ++ [.slice sa sl sc]) (On col' (31 + q)) → Kept h h' col col' q → X h') :
    ∃ (sA3 : Option Addr) (sL3 : Nat) (sC3 : Nat), cellOf h (Addr.add ⟨kb, 0, none⟩ q) = some (.slice sA3 sL3 sC3) ∧ New [.slice sa sl sc] tb h fun h7 =>
      ∃ new2 : List Value, List.length new2 = 1 * 1 ∧ SlCells h7 (some ⟨h.size, 0, none⟩) new2 ∧ (∀ v ∈ new2, v.oneCell' = true) ∧ AppendP ti tb sA3 sL3 sC3 1 new2 h7 fun sA4 sL4 sC4 h8 => onSome (some (⟨kb, 0, none⟩ : Addr)) fun p5 => Put (Addr.add p5 q) (.slice sA4 sL4 sC4) h8 fun h9 => X h9 := by
  have lkb := so.lt
  refine ⟨ra, rl, rc, rda hr (by rw [Nat.zero_add]; exact hc), New.intro fun h7 n7 => ⟨_, rfl, cellsAll n7.rd, fun v hv => by rw [List.mem_singleton.mp hv]; rfl, ?_⟩⟩
  have z7 := n7.size
  have g7 : Ag h.size col (upd col h.size 0) := ag_upd _ _ _
  have s7 : Sl h7 ti.cells ra rl rc xs (On (upd col h.size 0) (31 + q)) := by rw [t1]; exact s.keep n7.fr g7 fun _ _ y => y
  refine append_col s7 (by rw [t1]; rfl) t2 (by rw [t3]; omega) (by omega) fun a8 c8 h8 f8 s8 => ?_
  rw [t1] at s8
  have g8 : Ag h7.size (upd col h.size 0) (upd (upd col h.size 0) h7.size (31 + q)) := ag_upd _ _ _
  have sc7 : upd col h.size 0 kb = 30 := (g7 kb lkb).trans hs
  have nb : ¬ On (upd col h.size 0) (31 + q) kb := fun y => by have y : upd col h.size 0 kb = 31 + q := y; omega
  have lkb7 : kb < h7.size := by omega
  have r8 : rd h8 kb = cs := (f8.rd lkb7 nb).trans ((n7.at_ lkb).trans hr)
  refine os (Put.add (f8.own lkb7 nb (n7.ow so)) (by rw [r8, h5]; omega) fun h9 d9 => ?_)
  rw [r8] at d9
  have z8 := f8.size
  have z9 := d9.size
  have sc8 : upd (upd col h.size 0) h7.size (31 + q) kb = 30 := (g8 kb lkb7).trans sc7
  have ne : ∀ k, k ≠ 30 → ∀ b, upd (upd col h.size 0) h7.size (31 + q) b = k → ¬ (fun b => b = kb) b := fun k hk b hb (y : b = kb) => by rw [y, sc8] at hb; exact hk hb.symm
  have q8 : ∀ k', k' ≠ 31 + q → ∀ b, upd col h.size 0 b = k' → ¬ On (upd col h.size 0) (31 + q) b := fun k' hk' b hb y => hk' (hb.symm.trans y)
  have F9 : Fr (fun b => col b = 30 ∨ col b = 31 + q) h h9 := ((n7.fr.mono fun _ _ y => y.elim).trans f8 fun b hb y => .inr (by have y : upd col h.size 0 b = 31 + q := y; rw [g7 b hb] at y; exact y)).did d9 fun _ => .inl hs
  refine hX h9 a8 c8 _ F9 (g7.trans g8 (by omega)) (by rw [d9.rd, Nat.zero_add]) d9.own (s8.keep d9.fr (Ag.refl _ _) (ne _ (by omega))) fun s k1 k2 => ?_
  exact ((s.keep n7.fr g7 fun _ _ y => y).keep f8 g8 (q8 _ k1)).keep d9.fr (Ag.refl _ _) (ne _ k2)
section
variable {h : Heap} {col : Nat → Nat} {kb c : Nat} {xs : List Hb} {is : List Li} {ats : List La}
theorem ints_k1 {x : Li} {K : Value → Heap → Prop} (B : Bk h col kb xs is ats c) (hc : c < 1000000000000) (o : x.Ok h col (41 + 5 * is.length) (42 + 5 * is.length))
    (hK : ∀ h' col', Fr (fun b => col b = 30 ∨ col b = 32 ∨ col b = 33) h h' → Ag h.size col col' → Bk h' col' kb xs (is ++ [x]) ats (c + 1) → K (.tuple #[]) h') : bolelaw06_Book_ints.k1 (some ⟨kb, 0, none⟩) x.a x.l x.c x.ta x.l x.tc h K := by
  obtain ⟨ba, bc, ia, ic, ta, tc, aa, ac, wa, wc, r0, s1, s2, s3, s4, s5⟩ := B.rows
  have ni := B.ni
  unfold bolelaw06_Book_ints.k1
  refine os (row_push (q := 1) (sa := x.a) (sl := x.l) (sc := x.c) B.sc B.so r0 rfl (by decide) rfl s2 (by omega) rfl rfl rfl fun h9 b9 e9 col9 F9 G9 r9 o9 t9 k9 => ?_)
  have sc9 : col9 kb = 30 := (G9 kb B.so.lt).trans B.sc
  refine os (row_push (q := 2) (sa := x.ta) (sl := x.l) (sc := x.tc) sc9 o9 r9 rfl (by decide) rfl (k9 s3 (by decide) (by decide)) (by omega) rfl rfl rfl fun h12 b12 e12 col12 F12 G12 r12 o12 t12 k12 => ?_)
  have kp : ∀ {ec : Nat} {a : Option Addr} {l c : Nat} {vs : List Value} {k : Nat}, Sl h ec a l c vs (On col k) → k ≠ 32 → k ≠ 33 → k ≠ 30 → Sl h12 ec a l c vs (On col12 k) := fun s y1 y2 y3 => k12 (k9 s y1 y3) y2 y3
  have z9 := F9.size
  refine hK h12 col12 ((F9.mono fun b _ y => y.elim .inl fun y => .inr (.inl y)).trans F12 fun b hb y => by have y : col9 b = 30 ∨ col9 b = 33 := y; rw [G9 b hb] at y; exact y.elim .inl fun y => .inr (.inr y)) (G9.trans G12 z9) ⟨(G12 kb o9.lt).trans sc9, o12, ⟨ba, bc, b9, e9, b12, e12, aa, ac, wa, wc, ?_, kp s1 (by decide) (by decide) (by decide), ?_, ?_, kp s4 (by decide) (by decide) (by decide), kp s5 (by decide) (by decide) (by decide)⟩, fun i hi => ?_, fun i hi => ?_, fun i hi => ?_, Nat.le_succ_of_le B.nx, by rw [List.length_append]; exact Nat.succ_le_succ ni, Nat.le_succ_of_le B.na⟩
  · rw [r12, List.length_append]; rfl
  · rw [List.length_append, List.flatMap_append, List.flatMap_singleton]
    exact k12 t9 (by decide) (by decide)
  · rw [List.length_append, List.flatMap_append, List.flatMap_singleton]
    exact t12
  · have := B.bx i hi
    exact ⟨kp this.sl (by omega) (by omega) (by omega), this.yes, this.no, this.max⟩
  · by_cases e : i = is.length
    · subst e
      rw [List.getElem_append_right (Nat.le_refl _)]
      simp only [Nat.sub_self, List.getElem_singleton]
      exact ⟨kp o.s (by omega) (by omega) (by omega), kp o.t (by omega) (by omega) (by omega), o.max⟩
    · have hi' : i < is.length := by rw [List.length_append] at hi; have hi : i < is.length + 1 := hi; omega
      rw [List.getElem_append_left hi']
      exact ⟨kp (B.bi i hi').s (by omega) (by omega) (by omega), kp (B.bi i hi').t (by omega) (by omega) (by omega), (B.bi i hi').max⟩
  · have := B.ba i hi
    exact ⟨kp this.s (by omega) (by omega) (by omega), kp this.t (by omega) (by omega) (by omega), this.e, this.same, this.max⟩
end
end Go.Proofs.YtjdcbblgaoogmaaGreatDoor.Ap
namespace Go.Proofs.YtjdcbblgaoogmaaGreatDoor.Ap
open Go Go.Proofs Wx Hp W Ad L3 Rf
section
variable {h h' : Heap} {col col' : Nat → Nat} {kb c : Nat} {xs : List Hb} {is : List Li} {ats : List La}
theorem Bk.onlyS (B : Bk h col kb xs is ats c) {Kc : Nat → Prop} (f : Fr (fun b => Kc (col b)) h h') (g : Ag h.size col col') (hk : ∀ i, (i < xs.length → ¬ Kc (40 + 5 * i)) ∧ (i < is.length → ¬ Kc (41 + 5 * i) ∧ ¬ Kc (42 + 5 * i)) ∧ (i < ats.length → ¬ Kc (43 + 5 * i) ∧ ¬ Kc (44 + 5 * i))) (h40 : ∀ k, 30 ≤ k → k < 40 → ¬ Kc k) : Bk h' col' kb xs is ats c := by
  obtain ⟨ba, bc, ia, ic, ta, tc, aa, ac, wa, wc, r, s1, s2, s3, s4, s5⟩ := B.rows
  have q : ∀ k', ¬ Kc k' → ∀ b, col b = k' → ¬ (fun b => Kc (col b)) b := fun k' hk' b hb y => hk' (hb ▸ y)
  have hb := B.so.lt
  have nb := q 30 (h40 30 (by decide) (by decide)) kb B.sc
  exact ⟨(g _ hb).trans B.sc, f.own hb nb B.so, ⟨ba, bc, ia, ic, ta, tc, aa, ac, wa, wc, (f.rd hb nb).trans r, s1.keep f g (q 31 (h40 _ (by decide) (by decide))), s2.keep f g (q 32 (h40 _ (by decide) (by decide))), s3.keep f g (q 33 (h40 _ (by decide) (by decide))), s4.keep f g (q 34 (h40 _ (by decide) (by decide))), s5.keep f g (q 35 (h40 _ (by decide) (by decide)))⟩,
    fun i hi => (B.bx i hi).keep f g (q _ ((hk i).1 hi)), fun i hi => ⟨(B.bi i hi).s.keep f g (q _ ((hk i).2.1 hi).1), (B.bi i hi).t.keep f g (q _ ((hk i).2.1 hi).2), (B.bi i hi).max⟩, fun i hi => ⟨(B.ba i hi).s.keep f g (q _ ((hk i).2.2 hi).1), (B.ba i hi).t.keep f g (q _ ((hk i).2.2 hi).2), (B.ba i hi).e, (B.ba i hi).same, (B.ba i hi).max⟩, B.nx, B.ni, B.na⟩
theorem intsV_one (l : List Int) : ∀ v ∈ intsV l, v.oneCell' = true := fun v hv => by obtain ⟨x, _, rfl⟩ := List.mem_map.mp hv; rfl
theorem put_int {h : Heap} {a : Option Addr} {l cc k j : Nat} {col : Nat → Nat} {ys : List Int} {v : Int} {X : Heap → Prop} (s : Sl h 1 a l cc (intsV ys) (On col k)) (hj : j < l)
    (hX : ∀ h', Fr (On col k) h h' → Sl h' 1 a l cc (intsV (ys.set j v)) (On col k) → X h') : onSome a fun p => Put (Addr.add p j) (.int .i64 v) h X := by
  obtain ⟨p, rfl, cp⟩ := s.get (by omega)
  have e := s.mk
  obtain ⟨b, o, sp⟩ := p
  have e : sp = none := by simpa using e
  subst e
  obtain ⟨w1, w2⟩ := s.wr
  have hb : On col k b := s.2.2.1
  refine os (Put.add w1 (by omega) fun h6 d6 => hX h6 ((Fr.refl _ _).did d6 fun _ => hb) ?_)
  have s6 := s.putAt (j := j) (new := [.int .i64 v]) (by rw [List.length_singleton]; omega) d6
  rw [show put (intsV ys) j [Value.int .i64 v] = (intsV ys).set j (.int .i64 v) from rfl] at s6
  unfold intsV at s6 ⊢
  rw [List.map_set]; exact s6
def KcI (n : Nat) : Nat → Prop := fun k => k = 30 ∨ k = 32 ∨ k = 33 ∨ k = 41 + 5 * n ∨ k = 42 + 5 * n
theorem ints_spec {a : Option Addr} {l cc : Nat} {vs : List Int} {K : Value → Heap → Prop} (B : Bk h col kb xs is ats c) (hc : c < 1000000000000) (hl : l ≤ 1000000000) (s : Sl h 1 a l cc (intsV vs) (On col (41 + 5 * is.length)))
    (hK : ∀ h' col' x, Fr (fun b => KcI is.length (col b)) h h' → Ag h.size col col' → Bk h' col' kb xs (is ++ [x]) ats (c + 1) → K (.tuple #[]) h') : C.bolelaw06_Book_ints (some ⟨kb, 0, none⟩) a l cc h K := by
  obtain ⟨ba, bc, ia, ic, ta, tc, aa, ac, wa, wc, r0, s1, s2, s3, s4, s5⟩ := B.rows
  have ni := B.ni
  have hvl : (intsV vs).length = l * 1 := s.1
  refine bolelaw06_Book_ints.ok (os ⟨_, _, _, rda r0 rfl, intsV vs, hvl, s.cells, intsV_one vs, append_nil (elem := ti3) hvl rfl (by show l * 8 ≤ _; omega) (by omega) fun a2 c2 h2 f2 t2 => ?_⟩)
  have z2 := f2.size
  have g2 : Ag h.size col (upd col h.size (42 + 5 * is.length)) := ag_upd _ _ _
  have B2 := B.no f2 g2
  have sa2 := s.keep f2 g2 fun _ _ y => y
  have st2 : Sl h2 1 a2 l c2 (intsV vs) (On (upd col h.size (42 + 5 * is.length)) (42 + 5 * is.length)) := t2.mono fun b hb => upd_ge hb
  have F2 : Fr (fun b => KcI is.length (col b)) h h2 := f2.mono fun _ _ y => y.elim
  have dn : ∀ b, b < h.size → (upd col h.size (42 + 5 * is.length) b = 30 ∨ upd col h.size (42 + 5 * is.length) b = 32 ∨ upd col h.size (42 + 5 * is.length) b = 33) → KcI is.length (col b) := fun b hb y => by rw [g2 b hb] at y; unfold KcI; omega
  have fin : ∀ (ys : List Int) (h3 : Heap), Fr (fun b => (fun k => k = 41 + 5 * is.length ∨ k = 42 + 5 * is.length) (upd col h.size (42 + 5 * is.length) b)) h2 h3 → Sl h3 1 a l cc (intsV ys) (On (upd col h.size (42 + 5 * is.length)) (41 + 5 * is.length)) → Sl h3 1 a2 l c2 (intsV ys) (On (upd col h.size (42 + 5 * is.length)) (42 + 5 * is.length)) →
      bolelaw06_Book_ints.k1 (some ⟨kb, 0, none⟩) a l cc a2 l c2 h3 K := fun ys h3 f3 u1 u2 => by
    have B3 := B2.onlyS (Kc := fun k => k = 41 + 5 * is.length ∨ k = 42 + 5 * is.length) f3 (Ag.refl _ _) (fun i => ⟨fun hi y => by rcases y with y | y <;> omega, fun hi => ⟨fun y => by rcases y with y | y <;> omega, fun y => by rcases y with y | y <;> omega⟩, fun hi => ⟨fun y => by rcases y with y | y <;> omega, fun y => by rcases y with y | y <;> omega⟩⟩) fun k k1 k2 y => by rcases y with y | y <;> omega
    exact ints_k1 (x := ⟨a, l, cc, a2, c2, ys⟩) B3 hc ⟨u1, u2, by show l ≤ _; omega⟩ fun h' col' f g B' => hK h' col' _ ((F2.trans f3 fun b hb y => by have y : upd col h.size (42 + 5 * is.length) b = 41 + 5 * is.length ∨ upd col h.size (42 + 5 * is.length) b = 42 + 5 * is.length := y; rw [g2 b hb] at y; unfold KcI; omega).trans f dn) (g2.trans g (Nat.le_trans z2 f3.size)) B'
  refine ce (fun _ => ?_) fun _ => fin vs h2 (Fr.refl _ _) sa2 st2
  refine ⟨fun i hh => ∃ (j : Nat) (ys : List Int), i = j ∧ j ≤ l ∧ Fr (fun b => (fun k => k = 41 + 5 * is.length ∨ k = 42 + 5 * is.length) (upd col h.size (42 + 5 * is.length) b)) h2 hh ∧ Sl hh 1 a l cc (intsV ys) (On (upd col h.size (42 + 5 * is.length)) (41 + 5 * is.length)) ∧ Sl hh 1 a2 l c2 (intsV ys) (On (upd col h.size (42 + 5 * is.length)) (42 + 5 * is.length)), fun i _ => ((l : Int) - i).toNat,
    ⟨0, vs, rfl, Nat.zero_le _, Fr.refl _ _, sa2, st2⟩, ?_⟩
  rintro i h3 ⟨j, ys, ei, hj, f3, u1, u2⟩
  refine cd (fun hlt => ?_) fun hlt => fin ys h3 f3 u1 u2
  have hj' : j < l := by omega
  have ein : i.toNat = j := by omega
  rw [ein, wrap_i64 (n := i + 1) (by omega) (by omega)]
  refine ⟨⟨by omega, hlt⟩, put_int u1 hj' fun h4 f4 u1' => ⟨⟨by omega, hlt⟩, put_int (u2.fr f4 fun b _ y z => by have y : upd col h.size (42 + 5 * is.length) b = 42 + 5 * is.length := y; have z : upd col h.size (42 + 5 * is.length) b = 41 + 5 * is.length := z; omega) hj' fun h5 f5 u2' => ?_⟩⟩
  refine ⟨⟨j + 1, _, by omega, hj', (f3.trans f4 fun b _ y => .inl y).trans f5 fun b _ y => .inr y, u1'.fr f5 fun b _ y z => by have y : upd col h.size (42 + 5 * is.length) b = 41 + 5 * is.length := y; have z : upd col h.size (42 + 5 * is.length) b = 42 + 5 * is.length := z; omega, u2'⟩, by show ((l : Int) - (i + 1)).toNat < ((l : Int) - i).toNat; omega⟩
end
end Go.Proofs.YtjdcbblgaoogmaaGreatDoor.Ap
namespace Go.Proofs.YtjdcbblgaoogmaaGreatDoor.Ap
open Go Go.Proofs Wx Hp W Ad L3 Rf
structure Bq (h : Heap) (col : Nat → Nat) (kb : Nat) (xs : List Hb) (is : List Li) (ats : List La) : Prop where
  sc : col kb = 30
  so : Own h kb
  rows : ∃ ba bc ia ic ta tc aa ac wa wc, rd h kb = bkV ba xs.length bc ia is.length ic ta tc aa ats.length ac wa wc ∧ Sl h 5 ba xs.length bc (xs.flatMap Hb.cells) (On col 31) ∧ Sl h 1 ia is.length ic (is.flatMap Li.v) (On col 32) ∧ Sl h 1 ta is.length tc (is.flatMap Li.t) (On col 33) ∧ Sl h 1 aa ats.length ac (ats.flatMap La.v) (On col 34) ∧ Sl h 1 wa ats.length wc (ats.flatMap La.t) (On col 35)
  bi : ∀ i (hi : i < is.length), is[i].Ok h col (41 + 5 * i) (42 + 5 * i)
  ba : ∀ i (hi : i < ats.length), ats[i].Ok h col (43 + 5 * i) (44 + 5 * i)
section
variable {h h' : Heap} {col col' : Nat → Nat} {kb c : Nat} {xs : List Hb} {is : List Li} {ats : List La}
theorem Bk.q (B : Bk h col kb xs is ats c) : Bq h col kb xs is ats := ⟨B.sc, B.so, B.rows, B.bi, B.ba⟩
theorem Bq.keep (B : Bq h col kb xs is ats) {Kc : Nat → Prop} (f : Fr (fun b => Kc (col b)) h h') (g : Ag h.size col col') (hk : ∀ i, (i < is.length → ¬ Kc (41 + 5 * i) ∧ ¬ Kc (42 + 5 * i)) ∧ (i < ats.length → ¬ Kc (43 + 5 * i) ∧ ¬ Kc (44 + 5 * i))) (h40 : ∀ k, 30 ≤ k → k < 40 → ¬ Kc k) : Bq h' col' kb xs is ats := by
  obtain ⟨ba, bc, ia, ic, ta, tc, aa, ac, wa, wc, r, s1, s2, s3, s4, s5⟩ := B.rows
  have q : ∀ k', ¬ Kc k' → ∀ b, col b = k' → ¬ (fun b => Kc (col b)) b := fun k' hk' b hb y => hk' (hb ▸ y)
  have hb := B.so.lt
  have nb := q 30 (h40 30 (by decide) (by decide)) kb B.sc
  exact ⟨(g _ hb).trans B.sc, f.own hb nb B.so, ⟨ba, bc, ia, ic, ta, tc, aa, ac, wa, wc, (f.rd hb nb).trans r, s1.keep f g (q 31 (h40 _ (by decide) (by decide))), s2.keep f g (q 32 (h40 _ (by decide) (by decide))), s3.keep f g (q 33 (h40 _ (by decide) (by decide))), s4.keep f g (q 34 (h40 _ (by decide) (by decide))), s5.keep f g (q 35 (h40 _ (by decide) (by decide)))⟩,
    fun i hi => ⟨(B.bi i hi).s.keep f g (q _ ((hk i).1 hi).1), (B.bi i hi).t.keep f g (q _ ((hk i).1 hi).2), (B.bi i hi).max⟩, fun i hi => ⟨(B.ba i hi).s.keep f g (q _ ((hk i).2 hi).1), (B.ba i hi).t.keep f g (q _ ((hk i).2 hi).2), (B.ba i hi).e, (B.ba i hi).same, (B.ba i hi).max⟩⟩
theorem Bq.no (B : Bq h col kb xs is ats) (f : Fr No h h') (g : Ag h.size col col') : Bq h' col' kb xs is ats := B.keep (Kc := fun _ => False) (f.mono fun _ _ y => y) g (fun _ => ⟨fun _ => ⟨id, id⟩, fun _ => ⟨id, id⟩⟩) fun _ _ _ => id
end
structure Hb.Up (h : Heap) (col : Nat → Nat) (k : Nat) (x : Hb) : Prop where
  sl : Sl h 1 x.a x.l x.c (x.bs.map bv) (On col k)
  full : x.bs = List.replicate (x.n + 3) x.mark
  max : x.n ≤ 140737488355000
theorem Hb.Up.keep {h h' : Heap} {col col' : Nat → Nat} {k : Nat} {x : Hb} (o : x.Up h col k) {F : Nat → Prop} (f : Fr F h h') (g : Ag h.size col col') (hF : ∀ b, col b = k → ¬ F b) : x.Up h' col' k := ⟨o.sl.keep f g hF, o.full, o.max⟩
structure Gj (h : Heap) (col0 : Nat → Nat) (kb : Nat) (xs : List Hb) (is : List Li) (ats : List La) (ra : Option Addr) (rc : Nat) (j k : Nat) (hh : Heap) (la : Option Addr) (ll lc : Nat) (col : Nat → Nat) (ys : List Hb) : Prop where
  fr : Fr (fun b => 29 ≤ col0 b) h hh
  ag : Ag h.size col0 col
  q : Bq hh col kb xs is ats
  row : Sl hh 5 ra xs.length rc (xs.flatMap Hb.cells) (On col 31)
  hl : ll = j
  yl : ys.length = j
  l : Sl hh 5 la j lc (ys.flatMap Hb.cells) (On col 29)
  up : ∀ i (hi : i < ys.length), ys[i].Up hh col (40 + 5 * i)
  rest : ∀ i (hi : i < xs.length), k ≤ i → xs[i].Ok hh col (40 + 5 * i)
section
variable {h hh h8 h10 : Heap} {col0 col : Nat → Nat} {kb lc j : Nat} {xs ys : List Hb} {is : List Li} {ats : List La} {la ra : Option Addr} {ll rc : Nat}
theorem Gj.push {x : Hb} {X : Option Addr → Nat → Nat → Heap → Prop} {k : Nat} (G : Gj h col0 kb xs is ats ra rc j k hh la ll lc col ys) (hk : k ≤ j + 1) (hj : j < 1000000000000) (hx : x.Up hh col (40 + 5 * j)) (b : Nat) (hb : rd hh b = x.cells) (hX : ∀ a c h' col', (∀ i (hi : i < xs.length), j + 1 ≤ i → xs[i].Ok hh col (40 + 5 * i)) → Gj h col0 kb xs is ats ra rc (j + 1) (j + 1) h' a (j + 1) c col' (ys ++ [x]) → X a (j + 1) c h') :
    ∃ cs4 : List Value, List.length cs4 = 5 ∧ Cells hh ⟨b, 0, none⟩ cs4 ∧ List.length (cs4 : List Value) = 5 ∧ New cs4 142 hh fun h11 =>
      ∃ new1 : List Value, List.length new1 = 1 * 5 ∧ SlCells h11 (some ⟨hh.size, 0, none⟩) new1 ∧ (∀ v ∈ new1, v.oneCell' = true) ∧ AppendP ti142 142 la ll lc 1 new1 h11 X := by
  obtain rfl := G.hl
  refine ⟨_, rfl, cellsAll hb, rfl, New.intro fun h11 n11 => ⟨_, rfl, cellsAll n11.rd, Hb.one x, ?_⟩⟩
  have z11 := n11.size
  have g11 : Ag hh.size col (upd col hh.size 0) := ag_upd _ _ _
  have s11 := G.l.keep n11.fr g11 fun _ _ y => y
  refine append_col s11 rfl rfl (by show (ll + 1) * 64 ≤ _; omega) (by omega) fun a12 c12 h12 f12 s12 => ?_
  have g12 : Ag h11.size (upd col hh.size 0) (upd (upd col hh.size 0) h11.size 29) := ag_upd _ _ _
  have q29 : ∀ k, k ≠ 29 → ∀ b, upd col hh.size 0 b = k → ¬ On (upd col hh.size 0) 29 b := fun k hk b hb y => hk (hb.symm.trans y)
  have B11 := G.q.no n11.fr g11
  have f12' : Fr (fun b => (fun k => k = 29) (upd col hh.size 0 b)) h11 h12 := f12
  have B12 := B11.keep (Kc := fun k => k = 29) f12' g12 (fun i => ⟨fun _ => ⟨fun y => by omega, fun y => by omega⟩, fun _ => ⟨fun y => by omega, fun y => by omega⟩⟩) fun k k1 k2 y => by omega
  have G12 : Ag h.size col0 (upd (upd col hh.size 0) h11.size 29) := (G.ag.trans g11 G.fr.size).trans g12 (Nat.le_trans G.fr.size n11.fr.size)
  have yl := G.yl
  have ku : ∀ {x : Hb} {k : Nat}, x.Up hh col k → k ≠ 29 → x.Up h12 (upd (upd col hh.size 0) h11.size 29) k := fun o hk => (o.keep n11.fr g11 fun _ _ y => y).keep f12 g12 (q29 _ hk)
  have ko : ∀ {x : Hb} {k : Nat}, x.Ok hh col k → k ≠ 29 → x.Ok h12 (upd (upd col hh.size 0) h11.size 29) k := fun o hk => (o.keep n11.fr g11 fun _ _ y => y).keep f12 g12 (q29 _ hk)
  refine hX a12 c12 h12 _ (fun i hi y => G.rest i hi (by omega)) ⟨(G.fr.no n11.fr).trans f12 fun b hb y => ?_, G12, B12, (G.row.keep n11.fr g11 fun _ _ y => y).keep f12 g12 (q29 _ (by decide)), rfl, by rw [List.length_append, yl]; rfl, ?_, fun i hi => ?_, fun i hi y => ko (G.rest i hi (by omega)) (by omega)⟩
  · have y : upd col hh.size 0 b = 29 := y
    have e1 := g11 b (Nat.lt_of_lt_of_le hb G.fr.size)
    have e2 := G.ag b hb
    show 29 ≤ col0 b
    omega
  · rw [List.flatMap_append, List.flatMap_singleton]
    exact s12
  · by_cases e : i = ys.length
    · subst e
      rw [List.getElem_append_right (Nat.le_refl _)]
      simp only [Nat.sub_self, List.getElem_singleton]
      rw [yl]
      exact ku hx (by omega)
    · have hi' : i < ys.length := by rw [List.length_append] at hi; have hi : i < ys.length + 1 := hi; omega
      rw [List.getElem_append_left hi']
      exact ku (G.up i hi') (by omega)
end
end Go.Proofs.YtjdcbblgaoogmaaGreatDoor.Ap
namespace Go.Proofs.YtjdcbblgaoogmaaGreatDoor.Ap
open Go Go.Proofs Wx Hp W Ad L3 Rf
def holdsB (kb : Nat) (lA1 : Option Addr) (lL1 : Nat) (h4 : Heap) (K : Value → Heap → Prop) : Prop :=
  onSome (some (⟨kb, 0, none⟩ : Addr)) fun p8 =>
  ∃ (sA10 : Option Addr) (sL10 : Nat) (sC10 : Nat), cellOf h4 (Addr.add p8 1) = some (.slice sA10 sL10 sC10) ∧
  ∃ (I3 : Int → Heap → Prop) (M3 : Int → Heap → Nat), I3 0 h4 ∧
  ∀ (n3 : Int), ∀ h13 : Heap, I3 n3 h13 →
  bif (decide (n3 < (sL10 : Int))) then (
  onSome (some (⟨kb, 0, none⟩ : Addr)) fun p9 =>
  ∃ (sA11 : Option Addr) (sL11 : Nat) (sC11 : Nat), cellOf h13 (Addr.add p9 1) = some (.slice sA11 sL11 sC11) ∧
  (0 ≤ n3 ∧ n3 < (sL11 : Int)) ∧
  onSome sA11 fun p10 =>
  ∃ (sA12 : Option Addr) (sL12 : Nat) (sC12 : Nat), cellOf h13 (Addr.add p10 (Int.toNat n3)) = some (.slice sA12 sL12 sC12) ∧
  ∃ (I4 : Int → Heap → Prop) (M4 : Int → Heap → Nat), I4 0 h13 ∧
  ∀ (n4 : Int), ∀ h14 : Heap, I4 n4 h14 →
  bif (decide (n4 < (sL12 : Int))) then (
  onSome (some (⟨kb, 0, none⟩ : Addr)) fun p11 =>
  ∃ (sA13 : Option Addr) (sL13 : Nat) (sC13 : Nat), cellOf h14 (Addr.add p11 1) = some (.slice sA13 sL13 sC13) ∧
  (0 ≤ n3 ∧ n3 < (sL13 : Int)) ∧
  onSome sA13 fun p12 =>
  ∃ (sA14 : Option Addr) (sL14 : Nat) (sC14 : Nat), cellOf h14 (Addr.add p12 (Int.toNat n3)) = some (.slice sA14 sL14 sC14) ∧
  (0 ≤ n4 ∧ n4 < (sL14 : Int)) ∧
  onSome sA14 fun p13 =>
  Put (Addr.add p13 (Int.toNat n4)) (.int .i64 (IntKind.wrap .i64 ((-1000) - n3))) h14 fun h15 =>
  I4 (IntKind.wrap .i64 (n4 + 1)) h15 ∧ M4 (IntKind.wrap .i64 (n4 + 1)) h15 < M4 n4 h14) else (
  onSome (some (⟨kb, 0, none⟩ : Addr)) fun p14 =>
  ∃ (sA15 : Option Addr) (sL15 : Nat) (sC15 : Nat), cellOf h14 (Addr.add p14 1) = some (.slice sA15 sL15 sC15) ∧
  onSome (some (⟨kb, 0, none⟩ : Addr)) fun p15 =>
  ∃ (sA16 : Option Addr) (sL16 : Nat) (sC16 : Nat), cellOf h14 (Addr.add p15 1) = some (.slice sA16 sL16 sC16) ∧
  (0 ≤ n3 ∧ n3 < (sL16 : Int)) ∧
  onSome sA16 fun p16 =>
  ∃ (sA17 : Option Addr) (sL17 : Nat) (sC17 : Nat), cellOf h14 (Addr.add p16 (Int.toNat n3)) = some (.slice sA17 sL17 sC17) ∧
  New [.int .i64 (IntKind.wrap .i64 ((-1000) - n3))] 3 h14 fun h16 =>
  (cellOf h16 (Addr.add p14 1) = some (.slice sA15 sL15 sC15)) ∧
  (cellOf h16 (Addr.add p15 1) = some (.slice sA16 sL16 sC16)) ∧
  (cellOf h16 (Addr.add p16 (Int.toNat n3)) = some (.slice sA17 sL17 sC17)) ∧
  ∃ new3 : List Value, List.length new3 = 1 * 1 ∧ SlCells h16 (some ⟨h14.size, 0, none⟩) new3 ∧ (∀ v ∈ new3, v.oneCell' = true) ∧
  AppendP ti3 3 sA17 sL17 sC17 1 new3 h16 fun sA18 sL18 sC18 h17 =>
  (cellOf h17 (Addr.add p14 1) = some (.slice sA15 sL15 sC15)) ∧
  (0 ≤ n3 ∧ n3 < (sL15 : Int)) ∧
  onSome sA15 fun p17 =>
  Put (Addr.add p17 (Int.toNat n3)) (.slice sA18 sL18 sC18) h17 fun h18 =>
  I3 (IntKind.wrap .i64 (n3 + 1)) h18 ∧ M3 (IntKind.wrap .i64 (n3 + 1)) h18 < M3 n3 h13)) else (
  ∃ (I5 : Int → Heap → Prop) (M5 : Int → Heap → Nat), I5 0 h13 ∧
  ∀ (n5 : Int), ∀ h19 : Heap, I5 n5 h19 →
  bif (decide (n5 < (lL1 : Int))) then (
  (0 ≤ n5 ∧ n5 < (lL1 : Int)) ∧
  onSome lA1 fun p18 =>
  ∃ cs6 : List Value, List.length cs6 = 5 ∧ Cells h19 (Addr.add p18 ((Int.toNat n5) * 5)) cs6 ∧
  NewRow z142 142 cs6 5 h19 fun h21 =>
  ∃ (sA19 : Option Addr) (sL19 : Nat) (sC19 : Nat), cellOf h21 (Addr.add ⟨h19.size, 0, none⟩ 0) = some (.slice sA19 sL19 sC19) ∧
  ∃ (I6 : Int → Heap → Prop) (M6 : Int → Heap → Nat), I6 0 h21 ∧
  ∀ (n6 : Int), ∀ h22 : Heap, I6 n6 h22 →
  bif (decide (n6 < (sL19 : Int))) then (
  (0 ≤ n6 ∧ n6 < (sL19 : Int)) ∧
  onSome sA19 fun p19 =>
  ∃ (n7 : Int), cellOf h22 (Addr.add p19 (Int.toNat n6)) = some (.int .u8 n7) ∧
  ∃ (n8 : Int), cellOf h22 (Addr.add ⟨h19.size, 0, none⟩ 2) = some (.int .u8 n8) ∧
  bif (n7 != n8) then (
  K (.bool false) h22) else (
  I6 (IntKind.wrap .i64 (n6 + 1)) h22 ∧ M6 (IntKind.wrap .i64 (n6 + 1)) h22 < M6 n6 h22)) else (
  ∃ (sA20 : Option Addr) (sL20 : Nat) (sC20 : Nat), cellOf h22 (Addr.add ⟨h19.size, 0, none⟩ 0) = some (.slice sA20 sL20 sC20) ∧
  ∃ (n9 : Int), cellOf h22 (Addr.add ⟨h19.size, 0, none⟩ 1) = some (.int .i64 n9) ∧
  bif ((sL20 : Int) != (IntKind.wrap .i64 (n9 + 3))) then (
  K (.bool false) h22) else (
  I5 (IntKind.wrap .i64 (n5 + 1)) h22 ∧ M5 (IntKind.wrap .i64 (n5 + 1)) h22 < M5 n5 h19))) else (
  onSome (some (⟨kb, 0, none⟩ : Addr)) fun p20 =>
  ∃ (sA21 : Option Addr) (sL21 : Nat) (sC21 : Nat), cellOf h19 (Addr.add p20 1) = some (.slice sA21 sL21 sC21) ∧
  ∃ (I7 : Int → Heap → Prop) (M7 : Int → Heap → Nat), I7 0 h19 ∧
  ∀ (n10 : Int), ∀ h23 : Heap, I7 n10 h23 →
  bif (decide (n10 < (sL21 : Int))) then (
  onSome (some (⟨kb, 0, none⟩ : Addr)) fun p21 =>
  ∃ (sA22 : Option Addr) (sL22 : Nat) (sC22 : Nat), cellOf h23 (Addr.add p21 1) = some (.slice sA22 sL22 sC22) ∧
  (0 ≤ n10 ∧ n10 < (sL22 : Int)) ∧
  onSome sA22 fun p22 =>
  ∃ (sA23 : Option Addr) (sL23 : Nat) (sC23 : Nat), cellOf h23 (Addr.add p22 (Int.toNat n10)) = some (.slice sA23 sL23 sC23) ∧
  ∃ (I8 : Int → Heap → Prop) (M8 : Int → Heap → Nat), I8 0 h23 ∧
  ∀ (n11 : Int), ∀ h24 : Heap, I8 n11 h24 →
  bif (decide (n11 < (sL23 : Int))) then (
  (0 ≤ n11 ∧ n11 < (sL23 : Int)) ∧
  onSome sA23 fun p23 =>
  ∃ (n12 : Int), cellOf h24 (Addr.add p23 (Int.toNat n11)) = some (.int .i64 n12) ∧
  bif (n12 != (IntKind.wrap .i64 ((-1000) - n10))) then (
  K (.bool false) h24) else (
  I8 (IntKind.wrap .i64 (n11 + 1)) h24 ∧ M8 (IntKind.wrap .i64 (n11 + 1)) h24 < M8 n11 h24)) else (
  I7 (IntKind.wrap .i64 (n10 + 1)) h24 ∧ M7 (IntKind.wrap .i64 (n10 + 1)) h24 < M7 n10 h23)) else (
  K (.bool true) h23)))
def holdsD (kb : Nat) (lA1 : Option Addr) (lL1 : Nat) (h13 : Heap) (K : Value → Heap → Prop) : Prop :=
  ∃ (I5 : Int → Heap → Prop) (M5 : Int → Heap → Nat), I5 0 h13 ∧
  ∀ (n5 : Int), ∀ h19 : Heap, I5 n5 h19 →
  bif (decide (n5 < (lL1 : Int))) then (
  (0 ≤ n5 ∧ n5 < (lL1 : Int)) ∧
  onSome lA1 fun p18 =>
  ∃ cs6 : List Value, List.length cs6 = 5 ∧ Cells h19 (Addr.add p18 ((Int.toNat n5) * 5)) cs6 ∧
  NewRow z142 142 cs6 5 h19 fun h21 =>
  ∃ (sA19 : Option Addr) (sL19 : Nat) (sC19 : Nat), cellOf h21 (Addr.add ⟨h19.size, 0, none⟩ 0) = some (.slice sA19 sL19 sC19) ∧
  ∃ (I6 : Int → Heap → Prop) (M6 : Int → Heap → Nat), I6 0 h21 ∧
  ∀ (n6 : Int), ∀ h22 : Heap, I6 n6 h22 →
  bif (decide (n6 < (sL19 : Int))) then (
  (0 ≤ n6 ∧ n6 < (sL19 : Int)) ∧
  onSome sA19 fun p19 =>
  ∃ (n7 : Int), cellOf h22 (Addr.add p19 (Int.toNat n6)) = some (.int .u8 n7) ∧
  ∃ (n8 : Int), cellOf h22 (Addr.add ⟨h19.size, 0, none⟩ 2) = some (.int .u8 n8) ∧
  bif (n7 != n8) then (
  K (.bool false) h22) else (
  I6 (IntKind.wrap .i64 (n6 + 1)) h22 ∧ M6 (IntKind.wrap .i64 (n6 + 1)) h22 < M6 n6 h22)) else (
  ∃ (sA20 : Option Addr) (sL20 : Nat) (sC20 : Nat), cellOf h22 (Addr.add ⟨h19.size, 0, none⟩ 0) = some (.slice sA20 sL20 sC20) ∧
  ∃ (n9 : Int), cellOf h22 (Addr.add ⟨h19.size, 0, none⟩ 1) = some (.int .i64 n9) ∧
  bif ((sL20 : Int) != (IntKind.wrap .i64 (n9 + 3))) then (
  K (.bool false) h22) else (
  I5 (IntKind.wrap .i64 (n5 + 1)) h22 ∧ M5 (IntKind.wrap .i64 (n5 + 1)) h22 < M5 n5 h19))) else (
  onSome (some (⟨kb, 0, none⟩ : Addr)) fun p20 =>
  ∃ (sA21 : Option Addr) (sL21 : Nat) (sC21 : Nat), cellOf h19 (Addr.add p20 1) = some (.slice sA21 sL21 sC21) ∧
  ∃ (I7 : Int → Heap → Prop) (M7 : Int → Heap → Nat), I7 0 h19 ∧
  ∀ (n10 : Int), ∀ h23 : Heap, I7 n10 h23 →
  bif (decide (n10 < (sL21 : Int))) then (
  onSome (some (⟨kb, 0, none⟩ : Addr)) fun p21 =>
  ∃ (sA22 : Option Addr) (sL22 : Nat) (sC22 : Nat), cellOf h23 (Addr.add p21 1) = some (.slice sA22 sL22 sC22) ∧
  (0 ≤ n10 ∧ n10 < (sL22 : Int)) ∧
  onSome sA22 fun p22 =>
  ∃ (sA23 : Option Addr) (sL23 : Nat) (sC23 : Nat), cellOf h23 (Addr.add p22 (Int.toNat n10)) = some (.slice sA23 sL23 sC23) ∧
  ∃ (I8 : Int → Heap → Prop) (M8 : Int → Heap → Nat), I8 0 h23 ∧
  ∀ (n11 : Int), ∀ h24 : Heap, I8 n11 h24 →
  bif (decide (n11 < (sL23 : Int))) then (
  (0 ≤ n11 ∧ n11 < (sL23 : Int)) ∧
  onSome sA23 fun p23 =>
  ∃ (n12 : Int), cellOf h24 (Addr.add p23 (Int.toNat n11)) = some (.int .i64 n12) ∧
  bif (n12 != (IntKind.wrap .i64 ((-1000) - n10))) then (
  K (.bool false) h24) else (
  I8 (IntKind.wrap .i64 (n11 + 1)) h24 ∧ M8 (IntKind.wrap .i64 (n11 + 1)) h24 < M8 n11 h24)) else (
  I7 (IntKind.wrap .i64 (n10 + 1)) h24 ∧ M7 (IntKind.wrap .i64 (n10 + 1)) h24 < M7 n10 h23)) else (
  K (.bool true) h23))
def holdsE (kb : Nat) (lA1 : Option Addr) (lL1 : Nat) (h19 : Heap) (K : Value → Heap → Prop) : Prop :=
  onSome (some (⟨kb, 0, none⟩ : Addr)) fun p20 =>
  ∃ (sA21 : Option Addr) (sL21 : Nat) (sC21 : Nat), cellOf h19 (Addr.add p20 1) = some (.slice sA21 sL21 sC21) ∧
  ∃ (I7 : Int → Heap → Prop) (M7 : Int → Heap → Nat), I7 0 h19 ∧
  ∀ (n10 : Int), ∀ h23 : Heap, I7 n10 h23 →
  bif (decide (n10 < (sL21 : Int))) then (
  onSome (some (⟨kb, 0, none⟩ : Addr)) fun p21 =>
  ∃ (sA22 : Option Addr) (sL22 : Nat) (sC22 : Nat), cellOf h23 (Addr.add p21 1) = some (.slice sA22 sL22 sC22) ∧
  (0 ≤ n10 ∧ n10 < (sL22 : Int)) ∧
  onSome sA22 fun p22 =>
  ∃ (sA23 : Option Addr) (sL23 : Nat) (sC23 : Nat), cellOf h23 (Addr.add p22 (Int.toNat n10)) = some (.slice sA23 sL23 sC23) ∧
  ∃ (I8 : Int → Heap → Prop) (M8 : Int → Heap → Nat), I8 0 h23 ∧
  ∀ (n11 : Int), ∀ h24 : Heap, I8 n11 h24 →
  bif (decide (n11 < (sL23 : Int))) then (
  (0 ≤ n11 ∧ n11 < (sL23 : Int)) ∧
  onSome sA23 fun p23 =>
  ∃ (n12 : Int), cellOf h24 (Addr.add p23 (Int.toNat n11)) = some (.int .i64 n12) ∧
  bif (n12 != (IntKind.wrap .i64 ((-1000) - n10))) then (
  K (.bool false) h24) else (
  I8 (IntKind.wrap .i64 (n11 + 1)) h24 ∧ M8 (IntKind.wrap .i64 (n11 + 1)) h24 < M8 n11 h24)) else (
  I7 (IntKind.wrap .i64 (n10 + 1)) h24 ∧ M7 (IntKind.wrap .i64 (n10 + 1)) h24 < M7 n10 h23)) else (
  K (.bool true) h23)
theorem row_at {α : Type} {h : Heap} {a : Option Addr} {f : α → List Value} {xs : List α} (A : SlCells h a (xs.flatMap f)) (hw : ∀ x, (f x).length = 1) {j : Nat} (hj : j < xs.length) {v : Value} (hv : f xs[j] = [v]) : ∃ p, a = some p ∧ cellOf h (p.add j) = some v := by
  have hl := flat_length f 1 xs fun x _ => hw x
  cases a with
  | none => have A : xs.flatMap f = [] := A; rw [A] at hl; exact absurd hl (by simp; omega)
  | some p =>
    refine ⟨p, rfl, ?_⟩
    have := Cells.part A (j * 1) 1
    rw [flat_part f 1 xs (fun x _ => hw x) j hj, hv, Nat.mul_one] at this
    have := Cells.cell this (i := 0) rfl
    rw [Addr.add_zero] at this
    exact this
end Go.Proofs.YtjdcbblgaoogmaaGreatDoor.Ap
namespace Go.Proofs.YtjdcbblgaoogmaaGreatDoor.Ap
open Go Go.Proofs Wx Hp W Ad L3 Rf
section
variable {h : Heap} {col : Nat → Nat} {kb c : Nat} {xs : List Hb} {is : List Li} {ats : List La} {K : Value → Heap → Prop}
theorem intsV_len {h : Heap} {a : Option Addr} {l c : Nat} {vs : List Int} {F : Nat → Prop} (s : Sl h 1 a l c (intsV vs) F) : vs.length = l := by
  have := s.1
  unfold intsV at this
  rw [List.length_map] at this; omega
theorem intsV_get {h : Heap} {a : Option Addr} {ns : List Int} (A : SlCells h a (intsV ns)) {i : Nat} (hi : i < ns.length) : ∃ p, a = some p ∧ cellOf h (p.add i) = some (.int .i64 ns[i]) := by
  cases a with
  | none => have A : intsV ns = [] := A; have := List.map_eq_nil_iff.mp A; rw [this] at hi; exact absurd hi (by simp)
  | some p => exact ⟨p, rfl, A i _ (by unfold intsV; rw [List.getElem?_map, List.getElem?_eq_getElem hi]; rfl)⟩
theorem sameInts_spec {a b : Option Addr} {l l2 c e : Nat} {ns : List Int} {h : Heap} {K : Value → Heap → Prop} (A : SlCells h a (intsV ns)) (B : SlCells h b (intsV ns)) (hl1 : ns.length = l) (hl2 : ns.length = l2) (hl : l ≤ 1000000000000) (hK : K (.bool true) h) : C.bolelaw06_sameInts a l c b l2 e h K := by
  refine bolelaw06_sameInts.ok (cn (fun y => absurd (show (l : Int) = l2 by omega) y) fun _ => ?_)
  refine ⟨fun i hh => ∃ j : Nat, i = j ∧ j ≤ l ∧ hh = h, fun i _ => ((l : Int) - i).toNat, ⟨0, rfl, Nat.zero_le _, rfl⟩, ?_⟩
  rintro i _ ⟨j, ei, hj, rfl⟩
  refine cd (fun hlt => ?_) fun _ => hK
  have hj' : j < ns.length := by omega
  have ein : i.toNat = j := by omega
  obtain ⟨p, rfl, cp⟩ := intsV_get A hj'
  obtain ⟨q, rfl, cq⟩ := intsV_get B hj'
  rw [ein, wrap_i64 (n := i + 1) (by omega) (by omega)]
  exact ⟨⟨by omega, hlt⟩, os ⟨_, cp, ⟨by omega, by omega⟩, os ⟨_, cq, cn (fun y => absurd rfl y) fun _ => ⟨⟨j + 1, by omega, by omega, rfl⟩, by show ((l : Int) - (i + 1)).toNat < ((l : Int) - i).toNat; omega⟩⟩⟩⟩
theorem row_part5 {h : Heap} {a : Option Addr} {xs : List Hb} (A : SlCells h a (xs.flatMap Hb.cells)) {j : Nat} (hj : j < xs.length) : ∃ p, a = some p ∧ Cells h (p.add (j * 5)) xs[j].cells := by
  have hl := flat_length Hb.cells 5 xs fun _ _ => rfl
  cases a with
  | none => have A : xs.flatMap Hb.cells = [] := A; rw [A] at hl; exact absurd hl (by simp; omega)
  | some p =>
    refine ⟨p, rfl, ?_⟩
    have := Cells.part A (j * 5) 5
    rw [flat_part Hb.cells 5 xs (fun _ _ => rfl) j hj] at this
    exact this
theorem holdsA (B : Bk h col kb xs is ats c) (hc : c < 1000000000000)
    (hB : ∀ ra rc la lc hh col' ys, Gj h col kb xs is ats ra rc xs.length xs.length hh la xs.length lc col' ys → holdsB kb la xs.length hh K) : C.bolelaw06_Book_holds (some ⟨kb, 0, none⟩) h K := by
  obtain ⟨ba, bc, ia, ic, ta, tc, aa, ac, wa, wc, r0, s1, s2, s3, s4, s5⟩ := B.rows
  have nx := B.nx
  have ni := B.ni
  have na := B.na
  refine bolelaw06_Book_holds.ok (os ⟨_, _, _, rda r0 rfl, ?_⟩)
  refine ⟨fun i hh => ∃ j : Nat, i = j ∧ j ≤ is.length ∧ h = hh, fun i _ => ((is.length : Int) - i).toNat, ⟨0, rfl, Nat.zero_le _, rfl⟩, ?_⟩
  rintro i _ ⟨j, ei, hj, rfl⟩
  refine cd (fun hlt => ?_) fun _ => ?_
  · have hj' : j < is.length := by omega
    have ein : i.toNat = j := by omega
    obtain ⟨p, ep, cp⟩ := row_at (f := Li.v) s2.cells (fun _ => rfl) hj' rfl
    obtain ⟨q, eq, cq⟩ := row_at (f := Li.t) s3.cells (fun _ => rfl) hj' rfl
    have o := B.bi j hj'
    have omx := o.max
    rw [ein, wrap_i64 (n := i + 1) (by omega) (by omega)]
    refine os ⟨_, _, _, rda r0 rfl, ⟨by omega, hlt⟩, ?_⟩
    rw [ep]
    refine os ⟨_, _, _, cp, os ⟨_, _, _, rda r0 rfl, ⟨by omega, hlt⟩, ?_⟩⟩
    rw [eq]
    exact os ⟨_, _, _, cq, sameInts_spec o.s.cells o.t.cells (intsV_len o.s) (intsV_len o.s) omx ⟨_, rfl, cnot (ct rfl ⟨⟨j + 1, by omega, hj', rfl⟩, by show ((is.length : Int) - (i + 1)).toNat < ((is.length : Int) - i).toNat; omega⟩)⟩⟩
  refine os ⟨_, _, _, rda r0 rfl, ?_⟩
  refine ⟨fun la ll lc i hh => ∃ (j : Nat) (col' : Nat → Nat) (ys : List Hb), i = j ∧ j ≤ xs.length ∧ Gj h col kb xs is ats ba bc j j hh la ll lc col' ys, fun _ _ _ i _ => ((xs.length : Int) - i).toNat,
    ⟨0, col, [], rfl, Nat.zero_le _, Fr.refl _ _, Ag.refl _ _, B.q, s1, rfl, rfl, Sl.nil _ _ _, fun i hi => absurd hi (Nat.not_lt_zero _), fun i hi _ => B.bx i hi⟩, ?_⟩
  rintro la ll lc i3 h6 ⟨j, col', ys, ei3, hj3, G⟩
  refine cd (fun hlt => ?_) fun hge => ?_
  rotate_left
  · obtain rfl : j = xs.length := by omega
    obtain rfl := G.hl
    exact hB ba bc la lc h6 col' ys G
  have hj' : j < xs.length := by omega
  have ein : i3.toNat = j := by omega
  have o := G.rest j hj' (Nat.le_refl _)
  rw [ein, wrap_i64 (n := i3 + 1) (by omega) (by omega)]
  obtain ⟨p, ep, cp⟩ := row_part5 G.row.cells hj'
  refine ⟨⟨by omega, hlt⟩, ?_⟩
  subst ep
  refine os ⟨_, rfl, cp, NewRow.intro rfl (Hb.one _) rfl fun h8 n8 => ⟨_, rda n8.rd rfl, ?_⟩⟩
  have z8 := n8.size
  have g8 : Ag h6.size col' (upd col' h6.size 0) := ag_upd _ _ _
  have G8 : Gj h col kb xs is ats (some p) bc j j h8 la ll lc (upd col' h6.size 0) ys := ⟨G.fr.no n8.fr, G.ag.trans g8 G.fr.size, G.q.no n8.fr g8, G.row.keep n8.fr g8 (fun _ _ y => y), G.hl, G.yl, G.l.keep n8.fr g8 (fun _ _ y => y), fun i hi => (G.up i hi).keep n8.fr g8 (fun _ _ y => y), fun i hi y => (G.rest i hi y).keep n8.fr g8 (fun _ _ y => y)⟩
  have o8 := o.keep n8.fr g8 fun _ _ y => y
  have c0 : upd col' h6.size 0 h6.size = 0 := upd_ge (Nat.le_refl _)
  generalize upd col' h6.size 0 = col8 at G8 o8 c0
  generalize hx : xs[j] = x at o8 n8 ⊢
  have nxt : ∀ {h' : Heap} {a : Option Addr} {cc : Nat} {col2 : Nat → Nat} {y : Hb}, Gj h col kb xs is ats (some p) bc (j + 1) (j + 1) h' a (j + 1) cc col2 (ys ++ [y]) → (∃ (j' : Nat) (col' : Nat → Nat) (ys : List Hb), ((j + 1 : Nat) : Int) = j' ∧ j' ≤ xs.length ∧ Gj h col kb xs is ats (some p) bc j' j' h' a (j + 1) cc col' ys) ∧ ((xs.length : Int) - ((j + 1 : Nat) : Int)).toNat < ((xs.length : Int) - i3).toNat := fun G' => ⟨⟨j + 1, _, _, rfl, hj', G'⟩, by omega⟩
  have ei4 : i3 + 1 = ((j + 1 : Nat) : Int) := by omega
  rw [ei4]
  cases hk : x.kept with
  | true =>
    obtain ⟨e1, e2⟩ := o8.yes hk
    refine ct rfl ⟨_, _, _, rda n8.rd rfl, _, o8.sl.str, _, rda n8.rd rfl, cnot (ct (by rw [e1]; exact beq_self_eq_true _) ⟨_, rfl, cellsAll n8.rd, grown_spec o8.sl e2 o8.max fun a9 c9 h9 f9 s9 => ⟨_, rfl, ?_⟩⟩)⟩
    have z9 := f9.size
    have g9 : Ag h8.size col8 (upd col8 h8.size (40 + 5 * j)) := ag_upd _ _ _
    have nb : ¬ On col8 (40 + 5 * j) h6.size := fun y => by have y : col8 h6.size = 40 + 5 * j := y; omega
    have r9 : rd h9 h6.size = x.cells := (f9.rd (by omega) nb).trans n8.rd
    have o9 := f9.own (by omega) nb n8.own
    refine PutRow.intro o9 rfl (Hb.one _) (by rw [r9]; exact (by decide : 0 + 5 ≤ 5)) fun h10 d10 => ?_
    have z10 := d10.size
    have r10 : rd h10 h6.size = (x.grow a9 c9).cells := by rw [d10.rd]; exact put_all _ _ (by rw [r9]; rfl)
    have sc9 : upd col8 h8.size (40 + 5 * j) h6.size = 0 := (g9 _ (by omega)).trans c0
    have q9 : ∀ k, k ≠ 40 + 5 * j → ∀ b, col8 b = k → ¬ On col8 (40 + 5 * j) b := fun k hk b hb y => hk (hb.symm.trans y)
    have ne : ∀ k, k ≠ 0 → ∀ b, upd col8 h8.size (40 + 5 * j) b = k → ¬ (fun b => b = h6.size) b := fun k hk b hb (y : b = h6.size) => by rw [y, sc9] at hb; exact hk hb.symm
    have f9' : Fr (fun b => (fun k => k = 40 + 5 * j) (col8 b)) h8 h9 := f9
    have B9 := G8.q.keep (Kc := fun k => k = 40 + 5 * j) f9' g9 (fun i => ⟨fun _ => ⟨fun y => by omega, fun y => by omega⟩, fun _ => ⟨fun y => by omega, fun y => by omega⟩⟩) fun k k1 k2 y => by omega
    have d10' : Fr (fun b => (fun k => k = 0) (upd col8 h8.size (40 + 5 * j) b)) h9 h10 := d10.fr.mono fun b _ (y : b = h6.size) => by rw [y]; exact sc9
    have B10 := B9.keep (Kc := fun k => k = 0) d10' (Ag.refl _ _) (fun i => ⟨fun _ => ⟨fun y => by omega, fun y => by omega⟩, fun _ => ⟨fun y => by omega, fun y => by omega⟩⟩) fun k k1 k2 y => by omega
    have G10 : Gj h col kb xs is ats (some p) bc j (j + 1) h10 la ll lc (upd col8 h8.size (40 + 5 * j)) ys := ⟨(G8.fr.trans f9 fun b hb y => by
        have y : col8 b = 40 + 5 * j := y
        have e2 := G8.ag b hb
        show 29 ≤ col b
        omega).did d10 fun y => by have := G.fr.size; omega, G8.ag.trans g9 G8.fr.size, B10, (G8.row.keep f9 g9 (q9 _ (by omega))).keep d10.fr (Ag.refl _ _) (ne _ (by decide)), G8.hl, G8.yl, (G8.l.keep f9 g9 (q9 _ (by omega))).keep d10.fr (Ag.refl _ _) (ne _ (by decide)), fun i hi => ((G8.up i hi).keep f9 g9 (q9 _ (by have := G8.yl; omega))).keep d10.fr (Ag.refl _ _) (ne _ (by omega)), fun i hi y => ((G8.rest i hi (by omega)).keep f9 g9 (q9 _ (by omega))).keep d10.fr (Ag.refl _ _) (ne _ (by omega))⟩
    have u10 : (x.grow a9 c9).Up h10 (upd col8 h8.size (40 + 5 * j)) (40 + 5 * j) := ⟨s9.keep d10.fr (Ag.refl _ _) (ne _ (by omega)), rfl, o8.max⟩
    exact G10.push (Nat.le_refl _) (by omega) u10 h6.size r10 fun a cc h' col2 _ G' => nxt G'
  | false =>
    refine cf rfl ?_
    have u8 : x.Up h8 col8 (40 + 5 * j) := ⟨o8.sl, o8.no hk, o8.max⟩
    exact G8.push (Nat.le_succ _) (by omega) u8 h6.size n8.rd fun a cc h' col2 _ G' => nxt G'
end
end Go.Proofs.YtjdcbblgaoogmaaGreatDoor.Ap
namespace Go.Proofs.YtjdcbblgaoogmaaGreatDoor.Ap
open Go Go.Proofs Wx Hp W Ad L3 Rf
def Li.s (x : Li) : Value := .slice x.a x.l x.c
def La.s (x : La) : Value := .slice x.a x.l x.c
theorem li_map : ∀ zs : List Li, zs.flatMap Li.v = zs.map Li.s
  | [] => rfl
  | z :: r => by rw [List.flatMap_cons, List.map_cons, li_map r]; rfl
theorem la_map : ∀ zs : List La, zs.flatMap La.v = zs.map La.s
  | [] => rfl
  | z :: r => by rw [List.flatMap_cons, List.map_cons, la_map r]; rfl
theorem put_val {h : Heap} {a : Option Addr} {l cc k j : Nat} {col : Nat → Nat} {ys : List Value} {v : Value} {X : Heap → Prop} (s : Sl h 1 a l cc ys (On col k)) (hj : j < l)
    (hX : ∀ h', Fr (On col k) h h' → Sl h' 1 a l cc (ys.set j v) (On col k) → X h') : onSome a fun p => Put (Addr.add p j) v h X := by
  obtain ⟨p, rfl, cp⟩ := s.get (by omega)
  have e := s.mk
  obtain ⟨b, o, sp⟩ := p
  have e : sp = none := by simpa using e
  subst e
  obtain ⟨w1, w2⟩ := s.wr
  have hb : On col k b := s.2.2.1
  refine os (Put.add w1 (by omega) fun h6 d6 => hX h6 ((Fr.refl _ _).did d6 fun _ => hb) ?_)
  exact s.putAt (j := j) (new := [v]) (by rw [List.length_singleton]; omega) d6
theorem val_at {h : Heap} {a : Option Addr} {vs : List Value} (A : SlCells h a vs) {j : Nat} (hj : j < vs.length) : ∃ p, a = some p ∧ cellOf h (p.add j) = some vs[j] := by
  cases a with
  | none => have A : vs = [] := A; rw [A] at hj; exact absurd hj (by simp)
  | some p => exact ⟨p, rfl, A j _ (List.getElem?_eq_getElem hj)⟩
structure Hs (h : Heap) (col0 : Nat → Nat) (kb : Nat) (ys : List Hb) (zs : List Li) (us : List La) (ji ja : Nat) (hh : Heap) (la : Option Addr) (lc : Nat) (col : Nat → Nat) : Prop where
  fr : Fr (fun b => 29 ≤ col0 b) h hh
  ag : Ag h.size col0 col
  sc : col kb = 30
  so : Own hh kb
  rows : ∃ ba bl bc ia ic ta tc aa ac wa wc, rd hh kb = bkV ba bl bc ia zs.length ic ta tc aa us.length ac wa wc ∧ Sl hh 1 ia zs.length ic (zs.map Li.s) (On col 32) ∧ Sl hh 1 aa us.length ac (us.map La.s) (On col 34)
  l : Sl hh 5 la ys.length lc (ys.flatMap Hb.cells) (On col 29)
  up : ∀ i (hi : i < ys.length), ys[i].Up hh col (40 + 5 * i)
  zi : ∀ i (hi : i < zs.length), Sl hh 1 zs[i].a zs[i].l zs[i].c (intsV zs[i].vs) (On col (41 + 5 * i)) ∧ zs[i].l ≤ 1000000000001
  za : ∀ i (hi : i < us.length), Sl hh 3 us[i].a us[i].l us[i].c (us[i].es.flatMap Ent.cells) (On col (43 + 5 * i)) ∧ us[i].es.length = us[i].l ∧ us[i].l ≤ 1000000000001
  mi : ∀ i (hi : i < zs.length), ji ≤ i → zs[i].l ≤ 1000000000000
  ma : ∀ i (hi : i < us.length), ja ≤ i → us[i].l ≤ 1000000000000
  fi : ∀ i (hi : i < zs.length), i < ji → ∀ v ∈ zs[i].vs, v = -1000 - (i : Int)
  fa : ∀ i (hi : i < us.length), i < ja → ∀ e ∈ us[i].es, e.kind = -1000 - (i : Int)
section
variable {h hh h' : Heap} {col0 col col' : Nat → Nat} {kb lc ji ja : Nat} {ys : List Hb} {zs : List Li} {us : List La} {la : Option Addr}
theorem Hs.setI {j : Nat} {z : Li} (H : Hs h col0 kb ys zs us j ja hh la lc col) (hj : j < zs.length) (f : Fr (On col (41 + 5 * j)) hh h') (g : Ag hh.size col col') (s : Sl h' 1 z.a z.l z.c (intsV z.vs) (On col' (41 + 5 * j))) (hz : Li.s z = Li.s zs[j]) : Hs h col0 kb ys (zs.set j z) us j ja h' la lc col' := by
  obtain ⟨ba, bl, bc, ia, ic, ta, tc, aa, ac, wa, wc, r, s1, s2⟩ := H.rows
  have q : ∀ k, k ≠ 41 + 5 * j → ∀ b, col b = k → ¬ On col (41 + 5 * j) b := fun k hk b hb y => hk (hb.symm.trans y)
  have lkb := H.so.lt
  have nb := q 30 (by omega) kb H.sc
  have em : (zs.set j z).map Li.s = zs.map Li.s := by
    rw [List.map_set, hz]
    refine List.ext_getElem (by rw [List.length_set]) fun i h1 h2 => ?_
    rw [List.getElem_set]
    split
    · rename_i e; subst e; rw [List.getElem_map]
    · rfl
  have el : z.l = zs[j].l := by
    have := hz
    unfold Li.s at this
    injection this
  refine ⟨H.fr.trans f fun b hb y => ?_, H.ag.trans g H.fr.size, (g _ lkb).trans H.sc, f.own lkb nb H.so, ⟨ba, bl, bc, ia, ic, ta, tc, aa, ac, wa, wc, by rw [List.length_set]; exact (f.rd lkb nb).trans r, by rw [List.length_set, em]; exact s1.keep f g (q _ (by omega)), s2.keep f g (q _ (by omega))⟩, H.l.keep f g (q _ (by omega)), fun i hi => (H.up i hi).keep f g (q _ (by omega)), fun i hi => ?_, fun i hi => ⟨(H.za i hi).1.keep f g (q _ (by omega)), (H.za i hi).2⟩, fun i hi y => ?_, H.ma, fun i hi y v hv => ?_, H.fa⟩
  · have y : col b = 41 + 5 * j := y
    have := H.ag b hb
    show 29 ≤ col0 b
    omega
  · rw [List.length_set] at hi
    by_cases e : j = i
    · subst e
      rw [List.getElem_set_self]
      exact ⟨s, by rw [el]; exact (H.zi j hj).2⟩
    · rw [List.getElem_set_ne e]
      exact ⟨(H.zi i hi).1.keep f g (q _ (by omega)), (H.zi i hi).2⟩
  · rw [List.length_set] at hi
    by_cases e : j = i
    · subst e
      rw [List.getElem_set_self, el]
      exact H.mi j hj y
    · rw [List.getElem_set_ne e]
      exact H.mi i hi y
  · rw [List.length_set] at hi
    rw [List.getElem_set_ne (by omega)] at hv
    exact H.fi i hi y v hv
end
end Go.Proofs.YtjdcbblgaoogmaaGreatDoor.Ap
namespace Go.Proofs.YtjdcbblgaoogmaaGreatDoor.Ap
open Go Go.Proofs Wx Hp W Ad L3 Rf
section
variable {h hh h' : Heap} {col0 col col' : Nat → Nat} {kb lc ji ja : Nat} {ys : List Hb} {zs : List Li} {us : List La} {la : Option Addr} {K : Value → Heap → Prop}
theorem Hs.no (H : Hs h col0 kb ys zs us ji ja hh la lc col) (f : Fr No hh h') (g : Ag hh.size col col') : Hs h col0 kb ys zs us ji ja h' la lc col' := by
  obtain ⟨ba, bl, bc, ia, ic, ta, tc, aa, ac, wa, wc, r, s1, s2⟩ := H.rows
  have lkb := H.so.lt
  exact ⟨H.fr.no f, H.ag.trans g H.fr.size, (g _ lkb).trans H.sc, f.own lkb (fun y => y) H.so, ⟨ba, bl, bc, ia, ic, ta, tc, aa, ac, wa, wc, (f.rd lkb fun y => y).trans r, s1.keep f g (fun _ _ y => y), s2.keep f g (fun _ _ y => y)⟩, H.l.keep f g (fun _ _ y => y), fun i hi => (H.up i hi).keep f g (fun _ _ y => y), fun i hi => ⟨(H.zi i hi).1.keep f g (fun _ _ y => y), (H.zi i hi).2⟩, fun i hi => ⟨(H.za i hi).1.keep f g (fun _ _ y => y), (H.za i hi).2⟩, H.mi, H.ma, H.fi, H.fa⟩
theorem Hs.cellI (H : Hs h col0 kb ys zs us ji ja hh la lc col) : ∃ ia ic, cellOf hh (Addr.add ⟨kb, 0, none⟩ 1) = some (.slice ia zs.length ic) ∧ Sl hh 1 ia zs.length ic (zs.map Li.s) (On col 32) ∧ ∀ j (hj : j < zs.length), ∃ p, ia = some p ∧ cellOf hh (p.add j) = some (.slice zs[j].a zs[j].l zs[j].c) := by
  obtain ⟨ba, bl, bc, ia, ic, ta, tc, aa, ac, wa, wc, r, s1, s2⟩ := H.rows
  refine ⟨ia, ic, rda r rfl, s1, fun j hj => ?_⟩
  obtain ⟨p, ep, cp⟩ := val_at s1.cells (j := j) (by rw [List.length_map]; exact hj)
  rw [List.getElem_map] at cp
  exact ⟨p, ep, cp⟩
theorem holds_B (H : Hs h col0 kb ys zs us 0 0 hh la lc col) (hn : zs.length < 1000000000000) (hC : ∀ hh' col' zs', zs'.length = zs.length → Hs h col0 kb ys zs' us zs'.length 0 hh' la lc col' → holdsD kb la ys.length hh' K) : holdsB kb la ys.length hh K := by
  unfold holdsB
  obtain ⟨ia0, ic0, c0, _, _⟩ := H.cellI
  refine os ⟨_, _, _, c0, fun i hx => ∃ (j : Nat) (zs' : List Li) (col' : Nat → Nat), i = j ∧ j ≤ zs.length ∧ zs'.length = zs.length ∧ Hs h col0 kb ys zs' us j 0 hx la lc col', fun i _ => ((zs.length : Int) - i).toNat, ⟨0, zs, col, rfl, Nat.zero_le _, rfl, H⟩, ?_⟩
  rintro i h15 ⟨j, zs', col1, ei, hj, hl, H1⟩
  refine cd (fun hlt => ?_) fun hge => ?_
  rotate_left
  · have ej : j = zs'.length := by omega
    rw [ej] at H1
    exact hC h15 col1 zs' hl H1
  have hj' : j < zs'.length := by omega
  have ein : i.toNat = j := by omega
  obtain ⟨ia, ic, c1, s1, k1⟩ := H1.cellI
  obtain ⟨p, ep, cp⟩ := k1 j hj'
  have ml := H1.mi j hj' (Nat.le_refl _)
  have wv : IntKind.wrap .i64 ((-1000) - i) = -1000 - (j : Int) := by rw [wrap_i64 (by omega) (by omega)]; omega
  rw [ein, wv, wrap_i64 (n := i + 1) (by omega) (by omega)]
  refine os ⟨_, _, _, c1, ⟨by omega, by omega⟩, ?_⟩
  subst ep
  refine os ⟨_, _, _, cp, ?_⟩
  generalize hz : zs'[j] = z at ml cp ⊢
  have vl : z.vs.length = z.l := by have := intsV_len (H1.zi j hj').1; rw [hz] at this; exact this
  refine ⟨fun k hx => ∃ (q : Nat) (ws : List Int), k = q ∧ q ≤ z.l ∧ ws.length = z.l ∧ ws.take q = List.replicate q (-1000 - (j : Int)) ∧ Hs h col0 kb ys (zs'.set j { z with vs := ws }) us j 0 hx la lc col1, fun k _ => ((z.l : Int) - k).toNat,
    ⟨0, z.vs, rfl, Nat.zero_le _, vl, rfl, by rw [show ({ z with vs := z.vs } : Li) = z from rfl, ← hz, List.set_getElem_self]; exact H1⟩, ?_⟩
  rintro k h16 ⟨q, ws, ek, hq, wl, wt, H2⟩
  have hj2 : j < (zs'.set j { z with vs := ws }).length := by rw [List.length_set]; exact hj'
  obtain ⟨ia2, ic2, c2, s2, k2⟩ := H2.cellI
  obtain ⟨p2, ep2, cp2⟩ := k2 j hj2
  have z2 := (H2.zi j hj2).1
  rw [List.getElem_set_self] at cp2 z2
  rw [List.length_set] at c2 s2
  subst ep2
  refine cd (fun hlt2 => ?_) fun hge2 => ?_
  · have hq' : q < z.l := by omega
    have ekn : k.toNat = q := by omega
    rw [ekn, wrap_i64 (n := k + 1) (by omega) (by omega)]
    refine os ⟨_, _, _, c2, ⟨by omega, by omega⟩, os ⟨_, _, _, cp2, ⟨by omega, hlt2⟩, put_int z2 hq' fun h17 f17 s17 => ?_⟩⟩
    have H3 := H2.setI (z := { z with vs := ws.set q (-1000 - (j : Int)) }) hj2 f17 (Ag.refl _ _) s17 (by rw [List.getElem_set_self]; rfl)
    rw [List.set_set] at H3
    refine ⟨⟨q + 1, _, by omega, hq', by rw [List.length_set]; exact wl, ?_, H3⟩, by show ((z.l : Int) - (k + 1)).toNat < ((z.l : Int) - k).toNat; omega⟩
    rw [take_snoc _ _ (by rw [List.length_set]; omega), List.getElem_set_self, List.take_set_of_le (Nat.le_refl _), wt, List.replicate_succ']
  · have eq : q = z.l := by omega
    have ews : ws = List.replicate z.l (-1000 - (j : Int)) := by rw [← eq, ← wt, List.take_of_length_le (by omega)]
    refine os ⟨_, _, _, c2, os ⟨_, _, _, c2, ⟨by omega, by omega⟩, os ⟨_, _, _, cp2, New.intro fun h18 n18 => ?_⟩⟩⟩
    have z18 := n18.size
    have g18 : Ag h16.size col1 (upd col1 h16.size 0) := ag_upd _ _ _
    have H4 := H2.no n18.fr g18
    have s2' := s2.keep n18.fr g18 fun _ _ y => y
    have z2' := z2.keep n18.fr g18 fun _ _ y => y
    have lkb := H2.so.lt
    have st : ∀ {b o : Nat} {v : Value}, b < h16.size → cellOf h16 ⟨b, o, none⟩ = some v → cellOf h18 ⟨b, o, none⟩ = some v := fun hb hc => by rw [cellOf_rd, n18.at_ hb]; rw [cellOf_rd] at hc; exact hc
    have c18 : cellOf h18 (Addr.add ⟨kb, 0, none⟩ 1) = some (.slice (some p2) zs'.length ic2) := by rw [add_mk] at c2 ⊢; exact st lkb c2
    have cp18 : cellOf h18 (p2.add j) = some (.slice z.a z.l z.c) := by
      have := s2'.cells
      have := Cells.cell this (i := j) (v := .slice z.a z.l z.c) (by rw [List.getElem?_map, List.getElem?_set_self hj']; rfl)
      exact this
    refine ⟨c18, c18, cp18, [.int .i64 (-1000 - (j : Int))], rfl, cellsAll n18.rd, fun v hv => by rw [List.mem_singleton.mp hv]; rfl, ?_⟩
    refine append_col (elem := ti3) z2' rfl rfl (by show (z.l + 1) * 8 ≤ _; omega) (by show z.l + 1 ≤ _; omega) fun a9 c9 h19 f19 s19 => ?_
    have g19 : Ag h18.size (upd col1 h16.size 0) (upd (upd col1 h16.size 0) h18.size (41 + 5 * j)) := ag_upd _ _ _
    have q19 : ∀ k, k ≠ 41 + 5 * j → ∀ b, upd col1 h16.size 0 b = k → ¬ On (upd col1 h16.size 0) (41 + 5 * j) b := fun k hk b hb y => hk (hb.symm.trans y)
    obtain ⟨ba, bl, bc, ia3, ic3, ta, tc, aa, ac, wa, wc, r4, t1, t2⟩ := H4.rows
    have lkb4 := H4.so.lt
    have nb := q19 30 (by omega) kb H4.sc
    have r19 := (f19.rd lkb4 nb).trans r4
    rw [List.length_set] at r19 t1
    have e3 : ia3 = some p2 ∧ ic3 = ic2 := by
      have e := rda (o := 0) (n := 1) r4 rfl
      rw [c18] at e
      injection e with e
      injection e with e1 e2 e3
      exact ⟨e1.symm, e3.symm⟩
    obtain ⟨rfl, rfl⟩ := e3
    have t19 := t1.keep f19 g19 (q19 _ (by omega))
    refine ⟨rda r19 rfl, ⟨by omega, by omega⟩, put_val t19 hj' fun h20 f20 s20 => ?_⟩
    generalize upd (upd col1 h16.size 0) h18.size (41 + 5 * j) = col9 at g19 s19 t19 f20 s20
    have z19 := f19.size
    have q20 : ∀ k, k ≠ 32 → ∀ b, col9 b = k → ¬ On col9 32 b := fun k hk b hb y => hk (hb.symm.trans y)
    have sc9 : col9 kb = 30 := (g19 kb lkb4).trans H4.sc
    have lkb9 : kb < h19.size := by omega
    have nb9 := q20 30 (by decide) kb sc9
    have kp : ∀ {ec : Nat} {a : Option Addr} {l c : Nat} {vs : List Value} {k : Nat}, Sl h18 ec a l c vs (On (upd col1 h16.size 0) k) → k ≠ 41 + 5 * j → k ≠ 32 → Sl h20 ec a l c vs (On col9 k) := fun s k1 k2 => (s.keep f19 g19 (q19 _ k1)).keep f20 (Ag.refl _ _) (q20 _ k2)
    have s20' : Sl h20 1 (some p2) zs'.length ic3 ((zs'.set j ⟨a9, z.l + 1, c9, z.ta, z.tc, ws ++ [-1000 - (j : Int)]⟩).map Li.s) (On col9 32) := by
      have e1 : (zs'.set j ⟨a9, z.l + 1, c9, z.ta, z.tc, ws ++ [-1000 - (j : Int)]⟩).map Li.s = ((zs'.set j { z with vs := ws }).map Li.s).set j (.slice a9 (z.l + 1) c9) := by
        rw [List.map_set, List.map_set, List.set_set]; rfl
      rw [e1]; exact s20
    have H5 : Hs h col0 kb ys (zs'.set j ⟨a9, z.l + 1, c9, z.ta, z.tc, ws ++ [-1000 - (j : Int)]⟩) us (j + 1) 0 h20 la lc col9 := by
      refine ⟨(H4.fr.trans f19 fun b hb y => ?_).trans f20 fun b hb y => ?_, H4.ag.trans g19 H4.fr.size, sc9, f20.own lkb9 nb9 (f19.own lkb4 nb H4.so), ⟨ba, bl, bc, some p2, ic3, ta, tc, aa, ac, wa, wc, by rw [List.length_set]; exact (f20.rd lkb9 nb9).trans r19, by rw [List.length_set]; exact s20', kp t2 (by omega) (by decide)⟩, kp H4.l (by omega) (by decide), fun i hi => ⟨kp (H4.up i hi).sl (by omega) (by omega), (H4.up i hi).full, (H4.up i hi).max⟩, fun i hi => ?_, fun i hi => ⟨kp (H4.za i hi).1 (by omega) (by omega), (H4.za i hi).2⟩, fun i hi y => ?_, H4.ma, fun i hi y v hv => ?_, H4.fa⟩
      · have y : upd col1 h16.size 0 b = 41 + 5 * j := y
        have := H4.ag b hb
        show 29 ≤ col0 b
        omega
      · have y : col9 b = 32 := y
        have := (H4.ag.trans g19 H4.fr.size) b hb
        show 29 ≤ col0 b
        omega
      · rw [List.length_set] at hi
        by_cases e : j = i
        · subst e
          rw [List.getElem_set_self]
          have e2 : intsV (ws ++ [-1000 - (j : Int)]) = intsV ws ++ [.int .i64 (-1000 - (j : Int))] := by unfold intsV; rw [List.map_append]; rfl
          refine ⟨?_, by show z.l + 1 ≤ _; omega⟩
          show Sl h20 1 a9 (z.l + 1) c9 (intsV (ws ++ [-1000 - (j : Int)])) (On col9 (41 + 5 * j))
          rw [e2]
          exact s19.keep f20 (Ag.refl _ _) (q20 _ (by omega))
        · rw [List.getElem_set_ne e]
          have := H4.zi i (by rw [List.length_set]; exact hi)
          rw [List.getElem_set_ne e] at this
          exact ⟨kp this.1 (by omega) (by omega), this.2⟩
      · rw [List.length_set] at hi
        rw [List.getElem_set_ne (by omega)]
        exact H1.mi i hi (by omega)
      · rw [List.length_set] at hi
        by_cases e : j = i
        · subst e
          rw [List.getElem_set_self] at hv
          have hv : v ∈ ws ++ [-1000 - (j : Int)] := hv
          rcases List.mem_append.mp hv with hv | hv
          · rw [ews] at hv; exact List.eq_of_mem_replicate hv
          · exact List.mem_singleton.mp hv
        · rw [List.getElem_set_ne e] at hv
          exact H1.fi i hi (by omega) v hv
    exact ⟨⟨j + 1, _, _, by omega, by omega, by rw [List.length_set]; exact hl, H5⟩, by show ((zs.length : Int) - (i + 1)).toNat < ((zs.length : Int) - i).toNat; omega⟩
end
end Go.Proofs.YtjdcbblgaoogmaaGreatDoor.Ap
namespace Go.Proofs.YtjdcbblgaoogmaaGreatDoor.Ap
open Go Go.Proofs Wx Hp W Ad L3 Rf
section
variable {h hh h' : Heap} {col0 col col' : Nat → Nat} {kb lc ji ja : Nat} {ys : List Hb} {zs : List Li} {us : List La} {la : Option Addr} {K : Value → Heap → Prop}
theorem bne_no {a b : Int} (e : a = b) : (a != b) = false := by subst e; exact bne_self_eq_false a
theorem holds_E (H : Hs h col0 kb ys zs us zs.length us.length hh la lc col) (hz : zs.length < 1000000000000) (hn : us.length < 1000000000000) (hK : ∀ hh' col', Hs h col0 kb ys zs us zs.length us.length hh' la lc col' → K (.bool true) hh') : holdsE kb la ys.length hh K := by
  unfold holdsE
  obtain ⟨ia0, ic0, c0, _, _⟩ := H.cellI
  refine os ⟨_, _, _, c0, fun i hx => ∃ (j : Nat), i = j ∧ j ≤ zs.length ∧ hh = hx, fun i _ => ((zs.length : Int) - i).toNat, ⟨0, rfl, Nat.zero_le _, rfl⟩, ?_⟩
  rintro i _ ⟨j, ei, hj, rfl⟩
  refine cd (fun hlt => ?_) fun hge => hK _ _ H
  have hj' : j < zs.length := by omega
  have ein : i.toNat = j := by omega
  obtain ⟨ia, ic, c1, s1, k1⟩ := H.cellI
  obtain ⟨p, ep, cp⟩ := k1 j hj'
  have wv : IntKind.wrap .i64 ((-1000) - i) = -1000 - (j : Int) := by rw [wrap_i64 (by omega) (by omega)]; omega
  rw [ein, wv, wrap_i64 (n := i + 1) (by omega) (by omega)]
  refine os ⟨_, _, _, c1, ⟨by omega, by omega⟩, ?_⟩
  subst ep
  refine os ⟨_, _, _, cp, ?_⟩
  refine ⟨fun k hx => ∃ (q : Nat), k = q ∧ q ≤ zs[j].l ∧ hh = hx, fun k _ => ((zs[j].l : Int) - k).toNat, ⟨0, rfl, Nat.zero_le _, rfl⟩, ?_⟩
  rintro k _ ⟨q, ek, hq, rfl⟩
  have z2 := H.zi j hj'
  have omx := z2.2
  refine cd (fun hlt2 => ?_) fun hge2 => ⟨⟨j + 1, by omega, hj', rfl⟩, by show ((zs.length : Int) - (i + 1)).toNat < ((zs.length : Int) - i).toNat; omega⟩
  have hq' : q < zs[j].l := by omega
  have ekn : k.toNat = q := by omega
  rw [ekn, wrap_i64 (n := k + 1) (by omega) (by omega)]
  refine ⟨⟨by omega, hlt2⟩, ?_⟩
  have vl := intsV_len z2.1
  obtain ⟨p3, ep3, cp3⟩ := val_at z2.1.cells (j := q) (by unfold intsV; rw [List.length_map]; omega)
  have e1 := H.fi j hj' hj' (zs[j].vs[q]'(by omega)) (List.getElem_mem _)
  have e2 : (intsV zs[j].vs)[q]'(by unfold intsV; rw [List.length_map]; omega) = .int .i64 (zs[j].vs[q]'(by omega)) := by unfold intsV; rw [List.getElem_map]
  rw [e2] at cp3
  rw [ep3]
  refine os ⟨_, cp3, cf (bne_no e1) ⟨⟨q + 1, by omega, hq', rfl⟩, ?_⟩⟩
  show ((zs[j].l : Int) - (k + 1)).toNat < ((zs[j].l : Int) - k).toNat
  omega
theorem holds_D (H : Hs h col0 kb ys zs us zs.length us.length hh la lc col) (hy : ys.length < 1000000000000) (hz : zs.length < 1000000000000) (hn : us.length < 1000000000000) (hK : ∀ hh' col', Hs h col0 kb ys zs us zs.length us.length hh' la lc col' → K (.bool true) hh') : holdsD kb la ys.length hh K := by
  unfold holdsD
  refine ⟨fun i hx => ∃ (j : Nat) (col' : Nat → Nat), i = j ∧ j ≤ ys.length ∧ Hs h col0 kb ys zs us zs.length us.length hx la lc col', fun i _ => ((ys.length : Int) - i).toNat, ⟨0, col, rfl, Nat.zero_le _, H⟩, ?_⟩
  rintro i h15 ⟨j, col1, ei, hj, H1⟩
  refine cd (fun hlt => ?_) fun hge => holds_E H1 hz hn hK
  have hj' : j < ys.length := by omega
  have ein : i.toNat = j := by omega
  obtain ⟨p, ep, cp⟩ := row_part5 H1.l.cells hj'
  rw [ein, wrap_i64 (n := i + 1) (by omega) (by omega)]
  refine ⟨⟨by omega, hlt⟩, ?_⟩
  subst ep
  refine os ⟨_, rfl, cp, NewRow.intro rfl (Hb.one _) rfl fun h8 n8 => ?_⟩
  have H2 := H1.no n8.fr (ag_upd _ _ 0)
  have u := H2.up j hj'
  generalize upd col1 h15.size 0 = col2 at H2 u
  have mx := u.max
  have bl : ys[j].bs.length = ys[j].l := by have := u.sl.1; rw [List.length_map] at this; omega
  have bl2 : ys[j].bs.length = ys[j].n + 3 := by rw [u.full, List.length_replicate]
  refine ⟨_, _, _, rda n8.rd rfl, fun k hx => ∃ (q : Nat), k = q ∧ q ≤ ys[j].l ∧ h8 = hx, fun k _ => ((ys[j].l : Int) - k).toNat, ⟨0, rfl, Nat.zero_le _, rfl⟩, ?_⟩
  rintro k _ ⟨q, ek, hq, rfl⟩
  refine cd (fun hlt2 => ?_) fun hge2 => ?_
  · have hq' : q < ys[j].l := by omega
    have ekn : k.toNat = q := by omega
    rw [ekn, wrap_i64 (n := k + 1) (by omega) (by omega)]
    refine ⟨⟨by omega, hlt2⟩, ?_⟩
    obtain ⟨p3, ep3, cp3⟩ := val_at u.sl.cells (j := q) (by rw [List.length_map]; omega)
    have e1 : ys[j].bs[q]'(by omega) = ys[j].mark := by
      have := List.getElem_mem (l := ys[j].bs) (n := q) (by omega)
      have e : ∀ x ∈ ys[j].bs, x = ys[j].mark := by rw [u.full]; exact fun x hx => List.eq_of_mem_replicate hx
      exact e _ this
    rw [List.getElem_map, e1] at cp3
    rw [ep3]
    refine os ⟨_, cp3, _, rda n8.rd rfl, cf (bne_no rfl) ⟨⟨q + 1, by omega, hq', rfl⟩, ?_⟩⟩
    show ((ys[j].l : Int) - (k + 1)).toNat < ((ys[j].l : Int) - k).toNat
    omega
  · refine ⟨_, _, _, rda n8.rd rfl, _, rda n8.rd rfl, cf (bne_no ?_) ⟨⟨j + 1, col2, by omega, hj', H2⟩, ?_⟩⟩
    · rw [wrap_i64 (by omega) (by omega)]; omega
    · show ((ys.length : Int) - (i + 1)).toNat < ((ys.length : Int) - i).toNat
      omega
end
end Go.Proofs.YtjdcbblgaoogmaaGreatDoor.Ap
namespace Go.Proofs.YtjdcbblgaoogmaaGreatDoor.Ap
open Go Go.Proofs Wx Hp W Ad L3 Rf
section
variable {h : Heap} {col : Nat → Nat} {kb c : Nat} {xs : List Hb} {is : List Li} {ats : List La} {K : Value → Heap → Prop}
theorem holds_spec (B : Bk h col kb xs is [] c) (hc : c < 1000000000000) (hK : ∀ h' col', Fr (fun b => 29 ≤ col b) h h' → Ag h.size col col' → K (.bool true) h') : C.bolelaw06_Book_holds (some ⟨kb, 0, none⟩) h K := by
  have nx := B.nx
  have ni := B.ni
  have na := B.na
  refine holdsA B hc fun ra rc la lc hh col' ys G => ?_
  have yl := G.yl
  rw [← yl]
  have H : Hs h col kb ys is [] 0 0 hh la lc col' := by
    obtain ⟨ba, bc, ia, ic, ta, tc, aa, ac, wa, wc, r, s1, s2, s3, s4, s5⟩ := G.q.rows
    rw [li_map] at s2
    rw [la_map] at s4
    exact ⟨G.fr, G.ag, G.q.sc, G.q.so, ⟨_, _, _, _, _, _, _, _, _, _, _, r, s2, s4⟩, by rw [yl]; exact G.l, G.up, fun i hi => ⟨(G.q.bi i hi).s, by have := (G.q.bi i hi).max; omega⟩, fun i hi => ⟨(G.q.ba i hi).s, (G.q.ba i hi).e.1, by have := (G.q.ba i hi).max; omega⟩, fun i hi _ => (G.q.bi i hi).max, fun i hi _ => (G.q.ba i hi).max, fun i hi y => absurd y (Nat.not_lt_zero _), fun i hi y => absurd y (Nat.not_lt_zero _)⟩
  refine holds_B H (by omega) fun h1 col1 zs ez H1 => holds_D (us := []) H1 (by omega) (by omega) (by decide) fun h3 col3 H3 => hK h3 col3 H3.fr H3.ag
end
theorem Bk.recol {h : Heap} {col col' : Nat → Nat} {kb c : Nat} {xs : List Hb} {is : List Li} {ats : List La} (B : Bk h col kb xs is ats c) (hr : ∀ b, 30 ≤ col b → col' b = col b) : Bk h col' kb xs is ats c := by
  have q : ∀ k, 30 ≤ k → ∀ b, col b = k → col' b = k := fun k h1 b hb => (hr b (by omega)).trans hb
  obtain ⟨ba, bc, ia, ic, ta, tc, aa, ac, wa, wc, r, s1, s2, s3, s4, s5⟩ := B.rows
  exact ⟨q 30 (Nat.le_refl _) _ B.sc, B.so, ⟨ba, bc, ia, ic, ta, tc, aa, ac, wa, wc, r, s1.mono (q _ (by decide)), s2.mono (q _ (by decide)), s3.mono (q _ (by decide)), s4.mono (q _ (by decide)), s5.mono (q _ (by decide))⟩,
    fun i hi => { B.bx i hi with sl := (B.bx i hi).sl.mono (q _ (by omega)) }, fun i hi => { B.bi i hi with s := (B.bi i hi).s.mono (q _ (by omega)), t := (B.bi i hi).t.mono (q _ (by omega)) }, fun i hi => { B.ba i hi with s := (B.ba i hi).s.mono (q _ (by omega)), t := (B.ba i hi).t.mono (q _ (by omega)) }, B.nx, B.ni, B.na⟩
end Go.Proofs.YtjdcbblgaoogmaaGreatDoor.Ap
namespace Go.Proofs.YtjdcbblgaoogmaaGreatDoor.Tp
open Go Go.Proofs Wx Hp W Ad Tm
def Kp (P : Heap → (Nat → Prop) → Prop) : Prop := (∀ {h h' F G}, P h F → Fr G h h' → (∀ b, F b → ¬ G b) → P h' F) ∧ ∀ {h F b}, P h F → F b → b < h.size
theorem kp_tx (t d : Option Addr) (T : TM) : Kp fun h F => Tx h F t d T := ⟨fun x f hG => x.fr f hG, fun x hb => x.lt hb⟩
theorem kp_rx (u q : Option Addr) (T : TM) : Kp fun h F => Rx.RxS h F u q T := ⟨fun x f hG => x.fr f hG, fun x hb => x.lt hb⟩
theorem kp_dk (d : Option Addr) (S : RD) : Kp fun h F => DiskF h F d S := ⟨fun x f hG => x.fr f hG, fun x hb => x.lt hb⟩
theorem kp_rf (q : Option Addr) (S : RD) : Kp fun h F => Rf.RfS h F q S := ⟨fun x f hG => x.fr f hG, fun x hb => x.lt hb⟩
structure Sd (h1 : Heap) (sb kb : Nat) (vs : List Value) (P Q : Heap → (Nat → Prop) → Prop) (hh : Heap) (col : Nat → Nat) (cb : Nat) : Prop where
  fr : Fr No h1 hh
  nrm : ∀ b, hh.size ≤ b → col b = 0
  base : ∀ b, b < h1.size → col b = 0
  sc : col sb = 1
  so : Own hh sb
  sr : rd hh sb = vs
  x : ∃ F, P hh F ∧ ∀ b, F b → col b = 2
  y : ∃ F, Q hh F ∧ ∀ b, F b → col b = 3
  bk : ∃ xs is, Ap.Bk hh col kb xs is [] cb
noncomputable def more (col : Nat → Nat) (n k : Nat) (F : Nat → Prop) : Nat → Nat := fun b => if b < n then col b else @ite _ (F b) (Classical.propDecidable _) k 0
theorem more_ag (col : Nat → Nat) (n k : Nat) (F : Nat → Prop) : Ag n col (more col n k F) := fun b hb => if_pos hb
theorem more_yes {col : Nat → Nat} {n k : Nat} {F : Nat → Prop} {b : Nat} (h : n ≤ b) (hF : F b) : more col n k F b = k := by unfold more; rw [if_neg (by omega), if_pos hF]
theorem more_no {col : Nat → Nat} {n k : Nat} {F : Nat → Prop} {b : Nat} (h : n ≤ b) (hF : ¬ F b) : more col n k F b = 0 := by unfold more; rw [if_neg (by omega), if_neg hF]
section
variable {h1 hh h' : Heap} {sb kb cb : Nat} {vs : List Value} {P Q P' Q' : Heap → (Nat → Prop) → Prop} {col col' : Nat → Nat}
theorem Sd.le (X : Sd h1 sb kb vs P Q hh col cb) {c : Nat} (hc : cb ≤ c) : Sd h1 sb kb vs P Q hh col c := by
  obtain ⟨xs, is, B⟩ := X.bk
  exact ⟨X.fr, X.nrm, X.base, X.sc, X.so, X.sr, X.x, X.y, xs, is, B.le hc⟩
theorem Sd.recol (X : Sd h1 sb kb vs P Q hh col cb) (kp : Kp P) (kq : Kp Q) (f : Fr No hh h') (g : Ag hh.size col col') (n : ∀ b, h'.size ≤ b → col' b = 0) : Sd h1 sb kb vs P Q h' col' cb := by
  obtain ⟨F, p, pF⟩ := X.x
  obtain ⟨G, q, qG⟩ := X.y
  obtain ⟨xs, is, B⟩ := X.bk
  have l := X.so.lt
  exact ⟨X.fr.no f, n, fun b hb => (g b (Nat.lt_of_lt_of_le hb X.fr.size)).trans (X.base b hb), (g _ l).trans X.sc, f.own l (fun y => y) X.so, (f.rd l fun y => y).trans X.sr, ⟨F, kp.1 p f (fun _ _ y => y), fun b hb => (g _ (kp.2 p hb)).trans (pF b hb)⟩, ⟨G, kq.1 q f (fun _ _ y => y), fun b hb => (g _ (kq.2 q hb)).trans (qG b hb)⟩, xs, is, B.no f g⟩
theorem Sd.no (X : Sd h1 sb kb vs P Q hh col cb) (kp : Kp P) (kq : Kp Q) (f : Fr No hh h') : Sd h1 sb kb vs P Q h' col cb := X.recol kp kq f (Ag.refl _ _) fun b hb => X.nrm b (Nat.le_trans f.size hb)
theorem Sd.prog (X : Sd h1 sb kb vs P Q hh col cb) (kq : Kp Q) {F F' : Nat → Prop} (pF : ∀ b, F b → col b = 2) (f : Fr F hh h') (g : Gw hh F h' F') (p : P' h' F') : ∃ col', Ag hh.size col col' ∧ Sd h1 sb kb vs P' Q h' col' cb := by
  obtain ⟨G, q, qG⟩ := X.y
  obtain ⟨xs, is, B⟩ := X.bk
  have l := X.so.lt
  have ag := more_ag col hh.size 2 F'
  have ns : ¬ F sb := fun y => by have := pF _ y; have := X.sc; omega
  have hs := f.size
  refine ⟨more col hh.size 2 F', ag, ⟨X.fr.trans f fun b hb y => ?_, fun b hb => more_no (by omega) fun y => ?_, fun b hb => (ag b (Nat.lt_of_lt_of_le hb X.fr.size)).trans (X.base b hb), (ag _ l).trans X.sc, f.own l ns X.so, (f.rd l ns).trans X.sr, ⟨F', p, fun b hb => ?_⟩, ⟨G, kq.1 q f (fun b y z => ?_), fun b hb => (ag _ (kq.2 q hb)).trans (qG b hb)⟩, xs, is, B.keep f ag fun b hb y => ?_⟩⟩
  · have := pF _ y; have := X.base b hb; omega
  · have := g.lt b y; omega
  · rcases Nat.lt_or_ge b hh.size with y | y
    · rw [ag b y]; exact pF b ((g.old b y).mp hb)
    · exact more_yes y hb
  · have := qG _ y; have := pF _ z; omega
  · have := pF _ y; omega
theorem Sd.doc (X : Sd h1 sb kb vs P Q hh col cb) (kp : Kp P) {F F' : Nat → Prop} (pF : ∀ b, F b → col b = 3) (f : Fr F hh h') (g : Gw hh F h' F') (p : Q' h' F') : ∃ col', Ag hh.size col col' ∧ Sd h1 sb kb vs P Q' h' col' cb := by
  obtain ⟨G, q, qG⟩ := X.x
  obtain ⟨xs, is, B⟩ := X.bk
  have l := X.so.lt
  have ag := more_ag col hh.size 3 F'
  have ns : ¬ F sb := fun y => by have := pF _ y; have := X.sc; omega
  have hs := f.size
  refine ⟨more col hh.size 3 F', ag, ⟨X.fr.trans f fun b hb y => ?_, fun b hb => more_no (by omega) fun y => ?_, fun b hb => (ag b (Nat.lt_of_lt_of_le hb X.fr.size)).trans (X.base b hb), (ag _ l).trans X.sc, f.own l ns X.so, (f.rd l ns).trans X.sr, ⟨G, kp.1 q f (fun b y z => ?_), fun b hb => (ag _ (kp.2 q hb)).trans (qG b hb)⟩, ⟨F', p, fun b hb => ?_⟩, xs, is, B.keep f ag fun b hb y => ?_⟩⟩
  · have := pF _ y; have := X.base b hb; omega
  · have := g.lt b y; omega
  · have := qG _ y; have := pF _ z; omega
  · rcases Nat.lt_or_ge b hh.size with y | y
    · rw [ag b y]; exact pF b ((g.old b y).mp hb)
    · exact more_yes y hb
  · have := pF _ y; omega
theorem Sd.did {ws : List Value} (X : Sd h1 sb kb vs P Q hh col cb) (kp : Kp P) (kq : Kp Q) (d : Did sb hh h' ws) : Sd h1 sb kb ws P Q h' col cb := by
  obtain ⟨F, p, pF⟩ := X.x
  obtain ⟨G, q, qG⟩ := X.y
  obtain ⟨xs, is, B⟩ := X.bk
  have sc := X.sc
  have z := d.size
  refine ⟨X.fr.trans d.fr fun b hb y => ?_, fun b hb => X.nrm b (by omega), X.base, sc, d.own, d.rd, ⟨F, kp.1 p d.fr (fun b y e => ?_), pF⟩, ⟨G, kq.1 q d.fr (fun b y e => ?_), qG⟩, xs, is, B.keep d.fr (Ag.refl _ _) fun b hb e => ?_⟩
  · have y : b = sb := y
    have := X.base b hb
    rw [y] at this; omega
  · have e : b = sb := e; have := pF _ y; rw [e] at this; omega
  · have e : b = sb := e; have := qG _ y; rw [e] at this; omega
  · have e : b = sb := e; rw [e] at hb; omega
theorem Sd.book (X : Sd h1 sb kb vs P Q hh col cb) (kp : Kp P) (kq : Kp Q) {c : Nat} (f : Fr (fun b => 30 ≤ col b) hh h') (g : Ag hh.size col col') (n : ∀ b, h'.size ≤ b → col' b = 0) (B : ∃ xs is, Ap.Bk h' col' kb xs is [] c) : Sd h1 sb kb vs P Q h' col' c := by
  obtain ⟨F, p, pF⟩ := X.x
  obtain ⟨G, q, qG⟩ := X.y
  have l := X.so.lt
  have sc := X.sc
  have ns : ¬ 30 ≤ col sb := by omega
  exact ⟨X.fr.trans f fun b hb y => by have := X.base b hb; omega, n, fun b hb => (g b (Nat.lt_of_lt_of_le hb X.fr.size)).trans (X.base b hb), (g _ l).trans X.sc, f.own l ns X.so, (f.rd l ns).trans X.sr, ⟨F, kp.1 p f (fun b y z => by have := pF _ y; omega), fun b hb => (g _ (kp.2 p hb)).trans (pF b hb)⟩, ⟨G, kq.1 q f (fun b y z => by have := qG _ y; omega), fun b hb => (g _ (kq.2 q hb)).trans (qG b hb)⟩, B⟩
theorem Sd.map (X : Sd h1 sb kb vs P Q hh col cb) (hp : ∀ F, P hh F → ∃ F', P' hh F' ∧ ∀ b, F' b → F b) (hq : ∀ F, Q hh F → ∃ F', Q' hh F' ∧ ∀ b, F' b → F b) : Sd h1 sb kb vs P' Q' hh col cb := by
  obtain ⟨F, p, pF⟩ := X.x
  obtain ⟨G, q, qG⟩ := X.y
  obtain ⟨F', p', e1⟩ := hp F p
  obtain ⟨G', q', e2⟩ := hq G q
  exact ⟨X.fr, X.nrm, X.base, X.sc, X.so, X.sr, ⟨F', p', fun b hb => pF b (e1 b hb)⟩, ⟨G', q', fun b hb => qG b (e2 b hb)⟩, X.bk⟩
end
def sdV (d q t u : Option Addr) : List Value := [.pointer d, .pointer q, .pointer t, .pointer u]
abbrev Pd (h1 : Heap) (sb kb : Nat) (d q t u : Option Addr) (S : RD) := Sd h1 sb kb (sdV d q t u) (fun h F => DiskF h F d S) (fun h F => Rf.RfS h F q S)
abbrev Pt (h1 : Heap) (sb kb : Nat) (d q t u : Option Addr) (T U : TM) := Sd h1 sb kb (sdV d q t u) (fun h F => Tx h F t d T) (fun h F => Rx.RxS h F u q U)
section
variable {h1 hh : Heap} {sb kb cb : Nat} {d q t u : Option Addr} {T : TM} {S : RD} {col : Nat → Nat} {K : Value → Heap → Prop}
theorem disks (X : Pt h1 sb kb d q t u T T hh col cb) : Pd h1 sb kb d q t u T.disk hh col cb :=
  X.map (fun F x => by obtain ⟨D, a, b⟩ := x.dk; exact ⟨D, a, b⟩) fun F x => by obtain ⟨D, a, b, _⟩ := x.onDisk; exact ⟨D, a, b⟩
theorem begins_spec (X : Pd h1 sb kb d q t u S hh col cb) (hK : ∀ h' col' t' u', Ag hh.size col col' → hh.size ≤ h'.size → Pt h1 sb kb d q t' u' ⟨S, [], [], false⟩ ⟨S, [], [], false⟩ h' col' cb → K (.bool true) h') : C.bolelaw06_Sides_begins (some ⟨sb, 0, none⟩) hh K := by
  obtain ⟨F, A, hF⟩ := X.x
  refine bolelaw06_Sides_begins.ok (os ⟨_, rda X.sr rfl, Tm.Begin_spec A fun tb h2 F2 f2 g2 x2 => ⟨_, rfl, ?_⟩⟩)
  obtain ⟨col2, ag2, X2⟩ := X.prog (P' := fun h F => Tx h F (some ⟨tb, 0, none⟩) d ⟨S, [], [], false⟩) (kp_rf q S) hF (f2.mono fun _ _ y => y.elim) g2 x2
  refine os (Put.add X2.so (by rw [X2.sr]; show 0 + 2 < 4; omega) fun h3 d3 => ?_)
  have X3 := X2.did (kp_tx _ _ _) (kp_rf q S) d3
  obtain ⟨G, R, hG⟩ := X3.y
  refine os ⟨_, rda (X3.sr.trans (congrArg (fun l => List.set l (0 + 2) _) X2.sr)) rfl, Rx.RxS.begin_ R fun F4 h4 f4 x4 e4 => ⟨_, rfl, ?_⟩⟩
  obtain ⟨col4, ag4, X4⟩ := X3.doc (Q' := fun h F => Rx.RxS h F (some ⟨h3.size, 0, none⟩) q ⟨S, [], [], false⟩) (kp_tx _ _ _) hG (f4.mono fun _ _ y => y.elim) ⟨fun b hb => by rw [e4 b]; exact ⟨fun y => y.elim id fun y => by omega, .inl⟩, fun b hb => x4.lt hb⟩ x4
  refine os (Put.add X4.so (by rw [X4.sr, X2.sr]; show 0 + 3 < 4; omega) fun h5 d5 => ?_)
  have X5 := X4.did (kp_tx _ _ _) (kp_rx _ _ _) d5
  have e5 : (rd h4 sb).set (0 + 3) (.pointer (some ⟨h3.size, 0, none⟩)) = sdV d q (some ⟨tb, 0, none⟩) (some ⟨h3.size, 0, none⟩) := by rw [X4.sr, X2.sr]; rfl
  rw [e5] at X5
  have z2 := f2.size
  have z3 := d3.size
  have z4 := f4.size
  have z5 := d5.size
  exact os ⟨_, rda X5.sr rfl, hK h5 col4 _ _ ((ag2.trans (ag4.le (by omega)) z2)) (by omega) X5⟩
end
end Go.Proofs.YtjdcbblgaoogmaaGreatDoor.Tp
namespace Go.Proofs.YtjdcbblgaoogmaaGreatDoor.Tp
open Go Go.Proofs Wx Hp W Ad Tm
theorem chunks_flat {L : List (List UInt8)} (h : ∀ x ∈ L, x.length = 512) : chunks L.flatten = L := by
  have hl := Wd.flat_512 L h
  refine List.ext_getElem (by rw [chunks_length, hl]; omega) fun i g1 g2 => ?_
  rw [chunks_get _ g1]
  have e := Wd.flat_cut h (i := i) (o := 0) (n := 512) (b := L[i]) (List.getElem?_eq_getElem g2) (by decide)
  rw [Nat.add_zero, List.drop_zero] at e
  have := h _ (List.getElem_mem g2)
  rw [List.take_of_length_le (l := L[i]) (by omega)] at e
  exact e
section
variable {h1 hh h' : Heap} {sb kb cb : Nat} {d q t u : Option Addr} {T : TM} {S : RD} {col : Nat → Nat} {K : Value → Heap → Prop} {vs : List Value} {P Q P' Q' : Heap → (Nat → Prop) → Prop}
theorem Sd.far (X : Sd h1 sb kb vs P Q hh col cb) (kp : Kp P) (kq : Kp Q) {F : Nat → Prop} (f : Fr F hh h') (h0 : ∀ b, F b → col b = 0 ∧ h1.size ≤ b) : Sd h1 sb kb vs P Q h' col cb := by
  obtain ⟨G, p, pG⟩ := X.x
  obtain ⟨E, q, qE⟩ := X.y
  obtain ⟨xs, is, B⟩ := X.bk
  have l := X.so.lt
  have sc := X.sc
  have ns : ¬ F sb := fun y => by have := (h0 _ y).1; omega
  exact ⟨X.fr.trans f fun b hb y => by have := (h0 _ y).2; omega, fun b hb => X.nrm b (Nat.le_trans f.size hb), X.base, sc, f.own l ns X.so, (f.rd l ns).trans X.sr, ⟨G, kp.1 p f (fun b y z => by have := pG _ y; have := (h0 _ z).1; omega), pG⟩, ⟨E, kq.1 q f (fun b y z => by have := qE _ y; have := (h0 _ z).1; omega), qE⟩, xs, is, B.keep f (Ag.refl _ _) fun b hb y => by have := (h0 _ y).1; omega⟩
theorem starts_spec (G : Re.Glo h1) (X : Pt h1 sb kb d q t u T T hh col cb) (hd : T.disk.down = true) (lg : Wc.Lg T.disk)
    (hK : ∀ h' col' d' q' t' u' out, Ag hh.size col col' → hh.size ≤ h'.size → Pt h1 sb kb d' q' t' u' ⟨fresh out, [], [], false⟩ ⟨fresh out, [], [], false⟩ h' col' cb → out.length = T.N → out[1]? = some (Hd.zeros 512) → K (.bool true) h') : C.bolelaw06_Sides_starts (some ⟨sb, 0, none⟩) hh K := by
  have Y := disks X
  have kp := kp_dk d T.disk
  have kq := kp_rf q T.disk
  obtain ⟨h98, w, hol⟩ := lg.out hd
  obtain ⟨E, R, hE⟩ := Y.y
  obtain ⟨D0, A0, _⟩ := Y.x
  have mx := A0.max
  obtain ⟨L, eL⟩ : ∃ L, L = T.disk.lasts := ⟨_, rfl⟩
  obtain ⟨S', m, out, erec, eout, beh, on, o5, oz⟩ := Wc.Hol.recover ⟨h98, mx.1⟩ hol
  have fl := Wd.flat_512 _ mx.2
  have fo := Wd.flat_512 _ o5
  refine bolelaw06_Sides_starts.ok (os ⟨_, rda Y.sr rfl, R.image fun a1 l1 c1 h2 f2 s2 => ⟨_, _, _, rfl, ?_⟩⟩)
  have el1 : T.disk.lasts.length * 512 = l1 := by rw [← fl]; exact s2.str.1
  have z2 := f2.size
  have Y2 := Y.no kp kq f2
  obtain ⟨D2, A2, hD2⟩ := Y2.x
  refine os ⟨_, rda Y2.sr rfl, _, s2.str, Wc.diskImage A2 fun a3 c3 h3 f3 s3 => ⟨_, _, _, rfl, by rw [toList_mkStr]; exact StrAt.fr f3 s2.str fun _ _ y => y, _, s3.str, cnot (ct (beq_self_eq_true _) ?_)⟩⟩
  have z3 := f3.size
  have Y3 := Y2.no kp kq f3
  have s3' := (Rx.sl_rng s2).fr f3 fun _ _ _ y => y
  have ok : ¬ (l1 % 512 ≠ 0 ∨ l1 = 0 ∨ 16384 < l1 / 512) := by have := mx.1; omega
  refine openF_spec s3'.str s3'.le (by have := mx.1; omega) (fun y => absurd y ok) fun _ _ _ q4 h4 D4 f4 ge4 A4 => ⟨_, _, rfl, cn (fun y => absurd rfl y) fun _ => cf rfl ?_⟩
  rw [chunks_flat mx.2] at A4
  have z4 := f4.size
  have Y4 := Y3.no kp kq f4
  unfold bolelaw06_Sides_starts.k1
  refine Wc.Recover_spec (G.no Y4.fr) A4 (by show ([] : List (Int × List UInt8)).length < _; decide) (by show ([] : List (Int × Int × List UInt8)).length < _; decide) fun h5 D5 f5 g5 A5 => ⟨_, _, rfl, ?_⟩
  rw [erec] at A5 ⊢
  have z5 := f5.size
  have big4 : ∀ b, D4 b → col b = 0 ∧ h1.size ≤ b := fun b y => by
    have := ge4 b y
    exact ⟨Y.nrm b (by omega), by have := Y3.fr.size; omega⟩
  have Y5 := Y4.far kp kq f5 big4
  have B5 : StrAt h5 a1 l1 T.disk.lasts.flatten := StrAt.fr f5 (StrAt.fr f4 s3'.str fun _ _ y => y) fun p e y => by
    have := ge4 _ y
    subst e
    have := (s2.lt)
    omega
  refine Wd.Behind6_spec B5 s3'.le mx.2 ⟨h98, mx.1⟩ beh fun a6 c6 h6 f6 s6 => ⟨_, _, _, rfl, cn (fun y => absurd rfl y) fun _ => ?_⟩
  have z6 := f6.size
  have Y6 := Y5.no kp kq f6
  refine ⟨_, s6.str, Wc.diskImage (A5.no f6) fun a7 c7 h7 f7 s7 => ⟨_, _, _, rfl, by rw [toList_mkStr]; exact StrAt.fr f7 s6.str fun _ _ y => y, _, s7.str, cnot (ct (by rw [eout]; exact beq_self_eq_true _) ?_)⟩⟩
  have z7 := f7.size
  have Y7 := Y6.no kp kq f7
  have s7' := s6.fr f7 fun _ _ _ y => y
  have on' : out.length = T.disk.lasts.length := on
  have ok2 : ¬ (T.disk.lasts.length * 512 % 512 ≠ 0 ∨ T.disk.lasts.length * 512 = 0 ∨ 16384 < T.disk.lasts.length * 512 / 512) := by have := mx.1; omega
  unfold bolelaw06_Sides_starts.k2
  refine openF_spec s7'.str s7'.le (by have := mx.1; omega) (fun y => absurd y ok2) fun _ _ _ q8 h8 D8 f8 ge8 A8 => ⟨_, _, rfl, ?_⟩
  rw [chunks_flat o5] at A8
  have z8 := f8.size
  obtain ⟨col8, ag8, Y8⟩ := Y7.prog (P' := fun h F => DiskF h F (some q8) (fresh out)) (F := No) kq (fun _ y => y.elim) f8 ⟨fun b hb => ⟨fun y => by have := ge8 b y; omega, fun y => y.elim⟩, fun b hb => A8.lt hb⟩ A8
  refine Rf.RfS.of (StrAt.fr f8 s7'.str fun _ _ y => y) (by have := mx.1; omega) (fun y => absurd y ok2) fun _ _ _ q9 h9 E9 f9 ge9 R9 => ⟨_, _, rfl, cn (fun y => absurd rfl y) fun _ => cn (fun y => absurd rfl y) fun _ => cf rfl ?_⟩
  rw [chunks_flat o5] at R9
  have z9 := f9.size
  obtain ⟨col9, ag9, Y9⟩ := Y8.doc (Q' := fun h F => Rf.RfS h F (some q9) (fresh out)) (F := No) (kp_dk _ _) (fun _ y => y.elim) f9 ⟨fun b hb => ⟨fun y => by have := ge9 b y; omega, fun y => y.elim⟩, fun b hb => R9.lt hb⟩ R9
  unfold bolelaw06_Sides_starts.k3
  refine os (Put.add Y9.so (by rw [Y9.sr]; show 0 + 0 < 4; omega) fun h10 d10 => ?_)
  have Y10 := Y9.did (kp_dk _ _) (kp_rf _ _) d10
  refine os (Put.add Y10.so (by rw [Y10.sr, Y9.sr]; show 0 + 1 < 4; omega) fun h11 d11 => ?_)
  have Y11 := Y10.did (kp_dk _ _) (kp_rf _ _) d11
  have e11 : (rd h10 sb).set (0 + 1) (.pointer (some q9)) = sdV (some q8) (some q9) t u := by rw [Y10.sr, Y9.sr]; rfl
  rw [e11] at Y11
  have z10 := d10.size
  have z11 := d11.size
  exact begins_spec Y11 fun h12 col12 t' u' ag12 z12 X12 => ⟨_, rfl, hK h12 col12 _ _ t' u' out (((ag8.le (by omega)).trans (ag9.le (by omega)) (Nat.le_refl _)).trans (ag12.le (by omega)) (Nat.le_refl _)) (by omega) X12 on oz⟩
end
end Go.Proofs.YtjdcbblgaoogmaaGreatDoor.Tp
namespace Go.Proofs.YtjdcbblgaoogmaaGreatDoor.Tp
open Go Go.Proofs Wx Hp W Ad Tm
def AtB (a : Option Addr) (b : Nat) : Prop := ∃ p, a = some p ∧ p.block = b
noncomputable def paint (col : Nat → Nat) (a : Option Addr) (k : Nat) : Nat → Nat := fun b => @ite _ (AtB a b) (Classical.propDecidable _) k (col b)
theorem paint_yes {col : Nat → Nat} {a : Option Addr} {k b : Nat} (h : AtB a b) : paint col a k b = k := if_pos h
theorem paint_no {col : Nat → Nat} {a : Option Addr} {k b : Nat} (h : ¬ AtB a b) : paint col a k b = col b := if_neg h
theorem sl_at {h : Heap} {ec l c k : Nat} {a : Option Addr} {xs : List Value} {F : Nat → Prop} {col : Nat → Nat} (s : Sl h ec a l c xs F) : Sl h ec a l c xs (On (paint col a k) k) := by
  obtain ⟨h1, h2⟩ := s
  refine ⟨h1, ?_⟩
  cases a with
  | none => exact h2
  | some p => obtain ⟨a1, a2, a3⟩ := h2; exact ⟨a1, paint_yes ⟨p, rfl, rfl⟩, a3⟩
theorem sl_in {h : Heap} {ec l c b : Nat} {a : Option Addr} {xs : List Value} {F : Nat → Prop} (s : Sl h ec a l c xs F) (hb : AtB a b) : F b ∧ b < h.size := by
  obtain ⟨p, rfl, rfl⟩ := hb
  exact ⟨s.2.2.1, s.lt⟩
def Nob (h1 : Heap) (col : Nat → Nat) (hh : Heap) (b : Nat) : Prop := col b = 0 ∧ h1.size ≤ b ∧ b < hh.size
section
variable {h1 hh : Heap} {sb kb cb : Nat} {vs : List Value} {P Q : Heap → (Nat → Prop) → Prop} {col col' : Nat → Nat} {K : Value → Heap → Prop}
theorem Sd.paint (X : Sd h1 sb kb vs P Q hh col cb) (h : ∀ b, col b ≠ 0 → col' b = col b) (n : ∀ b, hh.size ≤ b → col' b = 0) (b1 : ∀ b, b < h1.size → col' b = 0) : Sd h1 sb kb vs P Q hh col' cb := by
  obtain ⟨F, p, pF⟩ := X.x
  obtain ⟨G, q, qG⟩ := X.y
  obtain ⟨xs, is, B⟩ := X.bk
  have sc := X.sc
  exact ⟨X.fr, n, b1, (h _ (by omega)).trans sc, X.so, X.sr, ⟨F, p, fun b y => (h _ (by have := pF _ y; omega)).trans (pF _ y)⟩, ⟨G, q, fun b y => (h _ (by have := qG _ y; omega)).trans (qG _ y)⟩, xs, is, B.recol fun b y => h _ (by omega)⟩
theorem Sd.paintA (X : Sd h1 sb kb vs P Q hh col cb) {ec l c k : Nat} {a : Option Addr} {xs : List Value} (s : Sl hh ec a l c xs (Nob h1 col hh)) : Sd h1 sb kb vs P Q hh (Tp.paint col a k) cb := by
  refine X.paint (fun b hb => paint_no fun y => hb (sl_in s y).1.1) (fun b hb => ?_) fun b hb => ?_
  · rw [paint_no fun y => by have := (sl_in s y).1.2.2; omega]; exact X.nrm b hb
  · rw [paint_no fun y => by have := (sl_in s y).1.2.1; omega]; exact X.base b hb
theorem Sd.bytes (X : Sd h1 sb kb vs P Q hh col cb) (kp : Kp P) (kq : Kp Q) (hc : cb < 1000000000000) {a : Option Addr} {l cc : Nat} {bs : List UInt8} (hl : l ≤ 140737488355000) (s : Sl hh 1 a l cc (bs.map bv) (Nob h1 col hh))
    (hK : ∀ h' col', (∀ b, b < hh.size → ¬ AtB a b → col' b = col b) → Fr (fun b => 30 ≤ col b ∨ AtB a b) hh h' → Sd h1 sb kb vs P Q h' col' (cb + 1) → K (.tuple #[]) h') : C.bolelaw06_Book_bytes (some ⟨kb, 0, none⟩) a l cc hh K := by
  obtain ⟨xs, is, B⟩ := X.bk
  have X1 := X.paintA (k := 40 + 5 * xs.length) s
  have B1 : Ap.Bk hh (Tp.paint col a (40 + 5 * xs.length)) kb xs is [] cb := B.recol fun b y => paint_no fun z => by have := (sl_in s z).1.1; omega
  refine Ap.bytes_spec B1 hc hl (sl_at s) fun h' col' x f g B' => ?_
  have f' : Fr (fun b => 30 ≤ Tp.paint col a (40 + 5 * xs.length) b) hh h' := f.mono fun b _ y => by rcases y with y | y | y <;> omega
  have ag := ag_trim col' h'.size
  refine hK h' (trim col' h'.size) (fun b hb y => ?_) (f'.mono fun b _ y => ?_) (X1.book kp kq f' (g.trans ag f.size) (fun b hb => trim_ge hb) ⟨_, _, B'.no (Fr.refl _ _) ag⟩)
  · have := f.size
    rw [trim_lt (by omega), g b hb, paint_no y]
  · by_cases z : AtB a b
    · exact .inr z
    · rw [paint_no z] at y; exact .inl y
theorem Sd.ints (X : Sd h1 sb kb vs P Q hh col cb) (kp : Kp P) (kq : Kp Q) (hc : cb < 1000000000000) {a : Option Addr} {l cc : Nat} {ns : List Int} (hl : l ≤ 1000000000) (s : Sl hh 1 a l cc (Ap.intsV ns) (Nob h1 col hh))
    (hK : ∀ h' col', (∀ b, b < hh.size → ¬ AtB a b → col' b = col b) → Fr (fun b => 30 ≤ col b ∨ AtB a b) hh h' → Sd h1 sb kb vs P Q h' col' (cb + 1) → K (.tuple #[]) h') : C.bolelaw06_Book_ints (some ⟨kb, 0, none⟩) a l cc hh K := by
  obtain ⟨xs, is, B⟩ := X.bk
  have X1 := X.paintA (k := 41 + 5 * is.length) s
  have B1 : Ap.Bk hh (Tp.paint col a (41 + 5 * is.length)) kb xs is [] cb := B.recol fun b y => paint_no fun z => by have := (sl_in s z).1.1; omega
  refine Ap.ints_spec B1 hc hl (sl_at s) fun h' col' x f g B' => ?_
  have f' : Fr (fun b => 30 ≤ Tp.paint col a (41 + 5 * is.length) b) hh h' := f.mono fun b _ y => by unfold Ap.KcI at y; rcases y with y | y | y | y | y <;> omega
  have ag := ag_trim col' h'.size
  refine hK h' (trim col' h'.size) (fun b hb y => ?_) (f'.mono fun b _ y => ?_) (X1.book kp kq f' (g.trans ag f.size) (fun b hb => trim_ge hb) ⟨_, _, B'.no (Fr.refl _ _) ag⟩)
  · have := f.size
    rw [trim_lt (by omega), g b hb, paint_no y]
  · by_cases z : AtB a b
    · exact .inr z
    · rw [paint_no z] at y; exact .inl y
end
structure OpI where
  kind : Int
  n : Int
  x : UInt8
  ba : Option Addr
  bl : Nat
  bc : Nat
  bs : List UInt8
  ka : Option Addr
  kl : Nat
  kc : Nat
  keep : List Bool
def OpI.cells (o : OpI) : List Value := [.int .i64 o.kind, .int .i64 o.n, bv o.x, .slice o.ba o.bl o.bc, .slice o.ka o.kl o.kc]
theorem OpI.one (o : OpI) : ∀ v ∈ o.cells, v.oneCell' = true := by
  intro v hv
  simp only [OpI.cells, List.mem_cons, List.not_mem_nil, or_false] at hv
  rcases hv with rfl | rfl | rfl | rfl | rfl <;> rfl
structure OpI.Ok (h : Heap) (o : OpI) : Prop where
  b : StrAt h o.ba o.bl o.bs
  bl : o.bl ≤ 1000000000
  n : o.n ≤ 9223372036854775807
  k : SlCells h o.ka (o.keep.map .bool)
  kl : o.keep.length = o.kl
  km : o.kl ≤ 140737488355328
theorem most_put {h : Heap} {F : Nat → Prop} {u q : Option Addr} {T : TM} (x : Rx.RxS h F u q T) : T.put.length ≤ 96 := by
  obtain ⟨M, s, _⟩ := x
  cases hl : T.over with
  | true => rw [(s.gone hl).1]; exact Nat.zero_le _
  | false => exact s.most hl
section
variable {h1 hh : Heap} {sb kb cb : Nat} {d q t u : Option Addr} {T : TM} {col : Nat → Nat} {K : Value → Heap → Prop}
theorem two_bytes (X : Pt h1 sb kb d q t u T T hh col cb) (hc : cb + 2 < 1000000000000) {a a2 : Option Addr} {l c l2 c2 : Nat} {bs : List UInt8} (hl : l ≤ 140737488355000) (hl2 : l2 ≤ 140737488355000) (s : Sl hh 1 a l c (bs.map bv) (Nob h1 col hh)) (s2 : Sl hh 1 a2 l2 c2 (bs.map bv) (Nob h1 col hh)) (ne : ∀ b, AtB a b → ¬ AtB a2 b)
    (hK : ∀ h' col', Pt h1 sb kb d q t u T T h' col' (cb + 2) → K (.bool true) h') : C.bolelaw06_Book_bytes (some ⟨kb, 0, none⟩) a l c hh fun r4 h6 => r4 = .tuple #[] ∧ C.bolelaw06_Book_bytes (some ⟨kb, 0, none⟩) a2 l2 c2 h6 fun r5 h7 => r5 = .tuple #[] ∧ K (.bool true) h7 := by
  refine X.bytes (kp_tx _ _ _) (kp_rx _ _ _) (by omega) hl s fun h' col' e f X' => ⟨rfl, ?_⟩
  have z := f.size
  have s2' : Sl h' 1 a2 l2 c2 (bs.map bv) (Nob h1 col' h') := by
    have s3 := sl_at (k := 1) (col := fun _ => 0) s2
    have s4 := (Rx.sl_rng s3).fr f fun b hb y w => by
      have ya : AtB a2 b := Classical.byContradiction fun n => by have := paint_no (col := fun _ => 0) (k := 1) n; have y := y.1; unfold On at y; omega
      rcases w with w | w
      · have := (sl_in s2 ya).1.1; omega
      · exact ne b w ya
    refine s4.mono fun b y => ?_
    have ya : AtB a2 b := Classical.byContradiction fun n => by have := paint_no (col := fun _ => 0) (k := 1) n; have y := y.1; unfold On at y; omega
    obtain ⟨⟨n0, n1, n2⟩, _⟩ := sl_in s2 ya
    exact ⟨(e b n2 fun w => ne b w ya).trans n0, n1, by omega⟩
  exact X'.bytes (kp_tx _ _ _) (kp_rx _ _ _) (by omega) hl2 s2' fun h2 col2 _ _ X2 => ⟨rfl, hK h2 col2 X2⟩
theorem two_ints (X : Pt h1 sb kb d q t u T T hh col cb) (hc : cb + 2 < 1000000000000) {a a2 : Option Addr} {l c l2 c2 : Nat} {ns : List Int} (hl : l ≤ 1000000000) (hl2 : l2 ≤ 1000000000) (s : Sl hh 1 a l c (Ap.intsV ns) (Nob h1 col hh)) (s2 : Sl hh 1 a2 l2 c2 (Ap.intsV ns) (Nob h1 col hh)) (ne : ∀ b, AtB a b → ¬ AtB a2 b)
    (hK : ∀ h' col', Pt h1 sb kb d q t u T T h' col' (cb + 2) → K (.bool true) h') : C.bolelaw06_Book_ints (some ⟨kb, 0, none⟩) a l c hh fun r4 h6 => r4 = .tuple #[] ∧ C.bolelaw06_Book_ints (some ⟨kb, 0, none⟩) a2 l2 c2 h6 fun r5 h7 => r5 = .tuple #[] ∧ K (.bool true) h7 := by
  refine X.ints (kp_tx _ _ _) (kp_rx _ _ _) (by omega) hl s fun h' col' e f X' => ⟨rfl, ?_⟩
  have z := f.size
  have s2' : Sl h' 1 a2 l2 c2 (Ap.intsV ns) (Nob h1 col' h') := by
    have s3 := sl_at (k := 1) (col := fun _ => 0) s2
    have s4 := (Rx.sl_rng s3).fr f fun b hb y w => by
      have ya : AtB a2 b := Classical.byContradiction fun n => by have := paint_no (col := fun _ => 0) (k := 1) n; have y := y.1; unfold On at y; omega
      rcases w with w | w
      · have := (sl_in s2 ya).1.1; omega
      · exact ne b w ya
    refine s4.mono fun b y => ?_
    have ya : AtB a2 b := Classical.byContradiction fun n => by have := paint_no (col := fun _ => 0) (k := 1) n; have y := y.1; unfold On at y; omega
    obtain ⟨⟨n0, n1, n2⟩, _⟩ := sl_in s2 ya
    exact ⟨(e b n2 fun w => ne b w ya).trans n0, n1, by omega⟩
  exact X'.ints (kp_tx _ _ _) (kp_rx _ _ _) (by omega) hl2 s2' fun h2 col2 _ _ X2 => ⟨rfl, hK h2 col2 X2⟩
theorem nob_new {h2 h3 h5 : Heap} {ec l c : Nat} {a : Option Addr} {xs : List Value} (X : Pt h1 sb kb d q t u T T hh col cb) (f : Fr No hh h2) (s : Sl h3 ec a l c xs (From h2.size)) (f3 : Fr No h3 h5) : Sl h5 ec a l c xs (Nob h1 col h5) := by
  refine ((Rx.sl_rng s).fr f3 fun _ _ _ y => y).mono fun b y => ?_
  have y1 : h2.size ≤ b := y.1
  have y2 := y.2
  have := f.size
  have := X.fr.size
  have := f3.size
  exact ⟨X.nrm b (by omega), by omega, by omega⟩
theorem lists_spec {o : OpI} (X : Pt h1 sb kb d q t u T T hh col cb) (hc : cb + 2 < 1000000000000)
    (hK : ∀ h' col', Pt h1 sb kb d q t u T T h' col' (cb + 2) → K (.bool true) h') : C.bolelaw06_Sides_lists (some ⟨sb, 0, none⟩) o.cells (some ⟨kb, 0, none⟩) hh K := by
  have kp := kp_tx t d T
  have kq := kp_rx u q T
  refine bolelaw06_Sides_lists.ok (New.intro fun h2 n2 => ⟨_, rda n2.rd rfl, ?_⟩)
  have X2 := X.no kp kq n2.fr
  have z2 := n2.size
  refine ce (fun _ => ?_) fun _ => ce (fun _ => ?_) fun _ => hK h2 col (X2.le (by omega))
  · obtain ⟨F, x, hF⟩ := X2.x
    refine os ⟨_, rda X2.sr rfl, _, rda n2.rd rfl, Tm.Read_spec x fun a3 l3 c3 h3 f3 el3 s3 => ⟨_, _, _, _, rfl, ?_⟩⟩
    have X3 := X2.no kp kq f3
    have o3 : rd h3 hh.size = o.cells := (f3.rd (by omega) fun y => y).trans n2.rd
    have z3 := f3.size
    refine os ⟨_, rda X3.sr rfl, _, rda o3 rfl, Tm.Read_spec (x.no f3) fun a4 l4 c4 h4 f4 el4 s4 => ⟨_, _, _, _, rfl, ?_⟩⟩
    have X4 := X3.no kp kq f4
    have o4 : rd h4 hh.size = o.cells := (f4.rd (by omega) fun y => y).trans o3
    have z4 := f4.size
    obtain ⟨E, y, hE⟩ := X4.y
    refine os ⟨_, rda X4.sr rfl, _, rda o4 rfl, Rx.Read_spec y fun a5 l5 c5 h5 f5 el5 s5 => ⟨_, _, _, _, rfl, ?_⟩⟩
    have X5 := X4.no kp kq f5
    have s3' := (s3.fr f4 fun _ _ _ y => y).fr f5 fun _ _ _ y => y
    have s4' := s4.fr f5 fun _ _ _ y => y
    refine ⟨_, s3'.str, _, s5.str, cnot (ct (beq_self_eq_true _) ⟨_, s4'.str, _, s5.str, cnot (ct (beq_self_eq_true _) (cn (fun y => absurd rfl y) fun _ => cn (fun y => absurd rfl y) fun _ => ?_))⟩)⟩
    have len : (T.read o.n).1.length ≤ 512 := by
      by_cases e0 : (T.read o.n).2 = 0
      · rw [y.readLen e0]; exact Nat.le_refl _
      · have : (T.read o.n).1 = [] := by
          unfold TM.read at e0 ⊢
          split
          · rfl
          · rename_i h1; rw [if_neg h1] at e0
            split
            · rfl
            · rename_i h2; rw [if_neg h2] at e0
              unfold TM.get at e0 ⊢
              split
              · rename_i hb; rw [hb] at e0; exact absurd rfl e0
              · rename_i hb
                rw [hb] at e0
                simp only at e0 ⊢
                split
                · rfl
                · rename_i hd; rw [if_neg hd] at e0; exact absurd rfl e0
        rw [this]; exact Nat.zero_le _
    refine two_bytes X5 hc (by omega) (by omega) (nob_new X n2.fr s3 (f4.no f5)) (nob_new X (n2.fr.no f3) s4 f5) (fun b y1 y2 => ?_) hK
    have := (sl_in s3 y1).2
    have : h3.size ≤ b := (sl_in s4 y2).1
    omega
  · obtain ⟨F, x, hF⟩ := X2.x
    obtain ⟨E0, y0, _⟩ := X2.y
    have mp := most_put y0
    refine os ⟨_, rda X2.sr rfl, Tm.Written_spec x (by omega) fun a3 l3 c3 h3 f3 el3 s3 => ⟨_, _, _, rfl, ?_⟩⟩
    have X3 := X2.no kp kq f3
    have z3 := f3.size
    refine os ⟨_, rda X3.sr rfl, Tm.Written_spec (x.no f3) (by omega) fun a4 l4 c4 h4 f4 el4 s4 => ⟨_, _, _, rfl, ?_⟩⟩
    have X4 := X3.no kp kq f4
    obtain ⟨E, y, hE⟩ := X4.y
    refine os ⟨_, rda X4.sr rfl, Rx.Written_spec0 y fun a5 c5 h5 f5 s5 => ⟨_, _, _, rfl, ?_⟩⟩
    have X5 := X4.no kp kq f5
    have s3' := (s3.fr f4 fun _ _ _ y => y).fr f5 fun _ _ _ y => y
    have s4' := s4.fr f5 fun _ _ _ y => y
    have e3 : T.written.length = l3 := Ap.intsV_len (vs := T.written) s3
    have e4 : T.written.length = l4 := Ap.intsV_len (vs := T.written) s4
    have s3'' := nob_new X n2.fr s3 (f4.no f5)
    have s4'' := nob_new X (n2.fr.no f3) s4 f5
    refine Ap.sameInts_spec (ns := T.written) s3'.cells s5.cells e3 rfl (by omega) ⟨_, rfl, cnot (ct rfl (Ap.sameInts_spec (ns := T.written) s4'.cells s5.cells e4 rfl (by omega) ⟨_, rfl, cnot (ct rfl ?_)⟩))⟩
    refine two_ints (ns := T.written) X5 hc (by omega) (by omega) s3'' s4'' (fun b y1 y2 => ?_) hK
    have := (sl_in s3 y1).2
    have : h3.size ≤ b := (sl_in s4 y2).1
    omega
end
end Go.Proofs.YtjdcbblgaoogmaaGreatDoor.Tp
namespace Go.Proofs.YtjdcbblgaoogmaaGreatDoor.Tp
open Go Go.Proofs Wx Hp W Ad Tm
theorem sl_self {h : Heap} {ec l c : Nat} {a : Option Addr} {xs : List Value} {F : Nat → Prop} (s : Sl h ec a l c xs F) : Sl h ec a l c xs (AtB a) := by
  obtain ⟨h1, h2⟩ := s
  refine ⟨h1, ?_⟩
  cases a with
  | none => exact h2
  | some p => obtain ⟨a1, a2, a3⟩ := h2; exact ⟨a1, ⟨p, rfl, rfl⟩, a3⟩
theorem block6_spec {x : UInt8} {h : Heap} {K : Value → Heap → Prop} (hK : ∀ h', Fr No h h' → h.size < h'.size → StrAt h' (some ⟨h.size, 0, none⟩) 512 (List.replicate 512 x) → K (.slice (some ⟨h.size, 0, none⟩) 512 512) h') : C.bolelaw06_block (x.toNat : Int) h K := by
  refine bolelaw06_block.ok ⟨⟨by decide, by decide, by decide, by decide⟩, New.intro fun h2 n2 => ?_⟩
  have z2 := n2.size
  refine ⟨fun i hh => ∃ j : Nat, i = j ∧ j ≤ 512 ∧ Fr No h hh ∧ Own hh h.size ∧ h2.size ≤ hh.size ∧ rd hh h.size = (List.replicate j x ++ Hd.zeros (512 - j)).map bv, fun i _ => (((512 : Nat) : Int) - i).toNat, ⟨0, rfl, Nat.zero_le _, n2.fr, n2.own, Nat.le_refl _, n2.rd.trans (Wd.rep8 _)⟩, ?_⟩
  intro i h3 I
  obtain ⟨j, ei, hj, f, o, z, r⟩ := I
  subst ei
  have rl : (rd h3 h.size).length = 512 := by rw [r, List.length_map, List.length_append, List.length_replicate, Hd.zeros_length]; omega
  generalize hq : decide ((j : Int) < ((Int.toNat 512 : Nat) : Int)) = b
  refine cs (fun hlt => ?_) fun hlt => ?_
  · have hlt := of_decide_eq_true (hq.trans hlt)
    have hj' : j < 512 := by have : ((Int.toNat 512 : Nat) : Int) = 512 := rfl; omega
    rw [Int.toNat_natCast, wrap_i64 (n := (j : Int) + 1) (by omega) (by omega)]
    refine ⟨⟨by omega, hlt⟩, Put.add o (by rw [rl]; omega) fun h4 d4 => ⟨⟨j + 1, rfl, hj', f.did d4 fun y => by omega, d4.own, by have := d4.size; omega, ?_⟩, falls (m := 512) (by omega)⟩⟩
    rw [d4.rd, r, Nat.zero_add]
    show ((List.replicate j x ++ Hd.zeros (512 - j)).map bv).set j (bv x) = _
    rw [← List.map_set, List.set_append_right _ _ (by rw [List.length_replicate]; exact Nat.le_refl _), List.length_replicate, Nat.sub_self, show 512 - j = (512 - (j + 1)) + 1 by omega]
    unfold Hd.zeros
    rw [List.replicate_succ, List.set_cons_zero, List.replicate_succ', List.append_assoc]; rfl
  · have hlt := of_decide_eq_false (hq.trans hlt)
    have hj' : j = 512 := by have : ((Int.toNat 512 : Nat) : Int) = 512 := rfl; omega
    subst hj'
    rw [Nat.sub_self, show Hd.zeros 0 = [] from rfl, List.append_nil] at r
    exact hK h3 f (by omega) (strAll r (by rw [List.length_replicate]))
section
variable {h1 hh : Heap} {sb kb cb ob : Nat} {d q t u : Option Addr} {T : TM} {col : Nat → Nat} {K : Value → Heap → Prop}
theorem wipes_spec {a : Option Addr} {l c : Nat} {bs : List UInt8} {U V : TM} (X : Pt h1 sb kb d q t u U V hh col cb) (s : Sl hh 1 a l c (bs.map bv) (Nob h1 col hh)) (hl : l ≤ 1000000001) (hK : ∀ h', Pt h1 sb kb d q t u U V h' col cb → K (.bool true) h') : bolelaw06_Sides_writes.k2 a l hh K := by
  unfold bolelaw06_Sides_writes.k2
  refine ⟨fun i h2 => ∃ (j : Nat) (ys : List UInt8), i = j ∧ j ≤ l ∧ Pt h1 sb kb d q t u U V h2 col cb ∧ Sl h2 1 a l c (ys.map bv) (AtB a), fun i _ => ((l : Int) - i).toNat, ⟨0, bs, rfl, Nat.zero_le _, X, sl_self s⟩, ?_⟩
  rintro _ h2 ⟨j, ys, rfl, hj, X2, s2⟩
  refine cd (fun hlt => ?_) fun hlt => hK h2 X2
  have hj' : j < ys.length := by have := s2.str.1; omega
  rw [Int.toNat_natCast, wrap_i64 (n := (j : Int) + 1) (by omega) (by omega)]
  refine ⟨⟨by omega, hlt⟩, Wc.byte_at s2.str (List.getElem?_eq_getElem hj') fun p cp => ⟨_, cp, ⟨by omega, hlt⟩, ?_⟩⟩
  rw [Hd.bv_wrap]
  refine Wd.put_sl s2 (by omega) fun h3 f3 s3 => ?_
  rw [← List.map_set] at s3
  exact ⟨⟨j + 1, _, rfl, by omega, X2.far (kp_tx _ _ _) (kp_rx _ _ _) f3 (fun b y => by have := (sl_in s y).1; exact ⟨this.1, this.2.1⟩), s3⟩, falls hlt⟩
theorem writes_k1 {o : OpI} {ba : Option Addr} {bl bc : Nat} {bs : List UInt8} (X : Pt h1 sb kb d q t u T T hh col cb) (B : StrAt hh ba bl bs) (hl : bl ≤ 1000000000) (off : ∀ p, ba = some p → col p.block = 0) (ho : rd hh ob = o.cells) (hob : ob < hh.size ∧ col ob = 0) (hu : T.undo.length < 1000000000)
    (hK : ∀ h' col', Pt h1 sb kb d q t u (T.write o.n bs).1 (T.write o.n bs).1 h' col' cb → K (.bool true) h') : ∀ {ho' : Heap}, ho'.size = ob → bolelaw06_Sides_writes.k1 (some ⟨sb, 0, none⟩) ho' ba bl bc hh K := by
  intro ho' eo
  have kp := kp_tx t d T
  have kq := kp_rx u q T
  obtain ⟨q1, q2, q3⟩ := StrAt.src B
  have hbl := B.1
  unfold bolelaw06_Sides_writes.k1
  rw [eo]
  refine ⟨_, q1, q2, q3, append_nil q1 rfl (by show bl * 1 ≤ _; omega) (by omega) fun a3 c3 h5 f5 s5 => New.intro fun h6 n6 => ⟨[bv 165], rfl, cellsAll n6.rd, bv_one [165], ?_⟩⟩
  refine Cr.append_from (f5.new n6) (s5.fr n6.fr fun _ _ _ y => y) rfl rfl (by show (bl + 1) * 1 ≤ _; omega) (by omega) fun a4 c4 h7 f7 s7 => ?_
  have s7 : Sl h7 1 a4 (bl + 1) c4 ((bs ++ [165]).map bv) (From hh.size) := by rw [List.map_append]; exact s7
  have z7 := f7.size
  have X7 := X.no kp kq f7
  have o7 : rd h7 ob = o.cells := (f7.rd hob.1 fun y => y).trans ho
  have full : ∀ {h' : Heap}, StrAt h' a4 (bl + 1) (bs ++ [165]) → StrAt h' a4 bl bs := fun s => by
    have := StrAt.take s (n := bl) (by omega)
    rw [List.take_left' hbl] at this
    exact this
  have at4 : ∀ p, a4 = some p → hh.size ≤ p.block ∧ p.block < h7.size := fun p e => by
    subst e
    exact ⟨s7.2.2.1, s7.lt⟩
  obtain ⟨F, x, hF⟩ := X7.x
  refine os ⟨_, rda X7.sr rfl, _, rda o7 rfl, ⟨by omega, by have := s7.le; omega⟩, ?_⟩
  rw [Int.toNat_natCast]
  refine Tm.Write_spec x (full s7.str) (by omega) (fun p e y => by have := hF _ y; have := X.nrm p.block (at4 p e).1; omega) hu fun h8 F8 f8 g8 x8 => ⟨_, rfl, ?_⟩
  obtain ⟨col8, ag8, X8⟩ := X7.prog (P' := fun h F => Tx h F t d (T.write o.n bs).1) kq hF f8 g8 x8
  have z8 := f8.size
  have nF : ∀ b, col b = 0 → ¬ F b := fun b hb y => by have := hF _ y; omega
  have o8 : rd h8 ob = o.cells := (f8.rd (by omega) (nF _ hob.2)).trans o7
  have B8 : StrAt h8 ba bl bs := StrAt.fr f8 (StrAt.fr f7 B fun _ _ y => y) fun p e => nF _ (off p e)
  have s8 : StrAt h8 a4 (bl + 1) (bs ++ [165]) := StrAt.fr f8 s7.str fun p e => nF _ (X.nrm _ (at4 p e).1)
  obtain ⟨E, y, hE⟩ := X8.y
  refine os ⟨_, rda X8.sr rfl, _, rda o8 rfl, Rx.Write_spec0 y B8 hu fun h9 E9 f9 g9 y9 => ⟨_, rfl, cn (fun y => absurd rfl y) fun _ => ⟨⟨by omega, by have := s7.le; omega⟩, ?_⟩⟩⟩
  obtain ⟨col9, ag9, X9⟩ := X8.doc (Q' := fun h F => Rx.RxS h F u q (T.write o.n bs).1) (kp_tx _ _ _) hE f9 g9 y9
  have nE : ∀ b, b < h7.size → col b = 0 → ¬ E b := fun b hb h0 y => by have := hE _ y; have := ag8 b hb; omega
  have B9 : StrAt h9 ba bl bs := by
    by_cases e0 : bl = 0
    · have : bs = [] := List.eq_nil_of_length_eq_zero (by omega)
      rw [e0, this]; exact StrAt.nil _ _
    · exact StrAt.fr f9 B8 fun p e => nE _ (by subst e; have := Wd.str_lt B e0; omega) (off p e)
  have s9 : StrAt h9 a4 (bl + 1) (bs ++ [165]) := StrAt.fr f9 s8 fun p e => nE _ (at4 p e).2 (X.nrm _ (at4 p e).1)
  have sl9 := ((Rx.sl_rng s7).fr f8 fun b _ y => nF _ (X.nrm _ y.1)).fr f9 fun b _ y => nE _ y.2 (X.nrm _ y.1)
  have z9 := f9.size
  refine ⟨_, full s9, _, B9, cnot (ct (beq_self_eq_true _) ⟨⟨by omega, by omega⟩, Wc.byte_at s9 (k := bl) (y := 165) (by rw [List.getElem?_append_right (by omega), hbl, Nat.sub_self]; rfl) fun p cp => ⟨_, cp, cn (fun y => absurd rfl y) fun _ => ?_⟩⟩)⟩
  refine wipes_spec X9 (sl9.mono fun b y => ?_) (by omega) fun h' X' => hK h' col9 X'
  have y1 : hh.size ≤ b := y.1
  have y2 := y.2
  have := X.fr.size
  exact ⟨(ag9 b (by omega)).trans ((ag8 b y2).trans (X.nrm b y1)), by omega, by omega⟩
theorem writes_spec {o : OpI} (X : Pt h1 sb kb d q t u T T hh col cb) (ok : o.Ok h1) (hu : T.undo.length < 1000000000)
    (hK : ∀ h' col', Pt h1 sb kb d q t u (T.write o.n (if o.bl = 0 then List.replicate 512 o.x else o.bs)).1 (T.write o.n (if o.bl = 0 then List.replicate 512 o.x else o.bs)).1 h' col' cb → K (.bool true) h') : C.bolelaw06_Sides_writes (some ⟨sb, 0, none⟩) o.cells hh K := by
  have kp := kp_tx t d T
  have kq := kp_rx u q T
  refine bolelaw06_Sides_writes.ok (New.intro fun h2 n2 => ⟨_, _, _, rda n2.rd rfl, ?_⟩)
  have X2 := X.no kp kq n2.fr
  have z2 := n2.size
  have c0 : col hh.size = 0 := X.nrm _ (Nat.le_refl _)
  refine ce (fun e => ⟨_, rda n2.rd rfl, ?_⟩) fun e => ?_
  · rw [if_pos (by omega)] at hK
    refine block6_spec fun h3 f3 z3 B3 => ⟨_, _, _, rfl, ?_⟩
    exact writes_k1 (ob := hh.size) (X2.no kp kq f3) B3 (by decide) (fun p e => by cases e; exact X.nrm _ (by show hh.size ≤ h2.size; omega)) ((f3.rd (by omega) fun y => y).trans n2.rd) ⟨by omega, c0⟩ hu hK rfl
  · rw [if_neg (by omega)] at hK
    refine writes_k1 (ob := hh.size) X2 (StrAt.fr X2.fr ok.b fun _ _ y => y) ok.bl (fun p e' => ?_) n2.rd ⟨by omega, c0⟩ hu hK rfl
    have B := ok.b
    rw [e'] at B
    exact X.base _ (Wd.str_lt B (by omega))
end
end Go.Proofs.YtjdcbblgaoogmaaGreatDoor.Tp
namespace Go.Proofs.YtjdcbblgaoogmaaGreatDoor.Tp
open Go Go.Proofs Wx Hp W Ad Tm
structure Iv (c : Nat) (T : TM) : Prop where
  lg : Wc.Lg T.disk
  cn : Wc.Cn (200 * (c : Int)) T.disk
  tp : T.disk.tape.length ≤ 200 * c
  pe : T.disk.pend.length ≤ 200 * c
  un : T.undo.length ≤ c
  n : 90 ≤ T.N ∧ T.N ≤ 123
theorem Iv.next {c : Nat} {T : TM} (i : Iv c T) : Iv (c + 1) T := ⟨i.lg, i.cn.mono (by omega), by have := i.tp; omega, by have := i.pe; omega, by have := i.un; omega, i.n⟩
theorem Iv.same {c : Nat} {T U : TM} (i : Iv c T) (h : U.disk = T.disk) (hu : U.undo.length ≤ T.undo.length + 1) : Iv (c + 1) U := by
  have j := i.next
  have hn : U.N = T.N := by unfold TM.N; rw [h]
  exact ⟨by rw [h]; exact j.lg, by rw [h]; exact j.cn, by rw [h]; exact j.tp, by rw [h]; exact j.pe, by have := i.un; omega, by rw [hn]; exact j.n⟩
theorem Iv.new {L : List (List UInt8)} (hn : 90 ≤ L.length ∧ L.length ≤ 123) (hz : 98 ≤ L.length → L[1]? = some (Hd.zeros 512)) (c : Nat) : Iv c ⟨fresh L, [], [], false⟩ := ⟨Wc.Lg.new hz, (Wc.Cn.new L).mono (by omega), Nat.zero_le _, Nat.zero_le _, Nat.zero_le _, hn⟩
theorem write_undo (T : TM) (i : Int) (bs : Txt) : (T.write i bs).1.disk = T.disk ∧ (T.write i bs).1.undo.length ≤ T.undo.length + 1 := by
  unfold TM.write
  split
  · exact ⟨rfl, Nat.le_succ _⟩
  · split
    · exact ⟨rfl, Nat.le_succ _⟩
    · split
      · exact ⟨rfl, Nat.le_succ _⟩
      · split
        · exact ⟨rfl, Nat.le_succ _⟩
        · exact ⟨rfl, by show (T.undo ++ [_]).length ≤ _; rw [List.length_append]; exact Nat.le_refl _⟩
theorem back_undo (T : TM) (m : Int) : (T.back m).1.disk = T.disk ∧ (T.back m).1.undo.length ≤ T.undo.length + 1 := by
  unfold TM.back
  split
  · exact ⟨rfl, Nat.le_succ _⟩
  · split
    · exact ⟨rfl, Nat.le_succ _⟩
    · exact ⟨rfl, by show (T.undo.take m.toNat).length ≤ _; rw [List.length_take]; omega⟩
theorem blocks_512 {h : Heap} {F : Nat → Prop} {u q : Option Addr} {T : TM} (x : Rx.RxS h F u q T) (hl : T.over = false) : Wc.mayW T.blocks (T.N : Int) = true ∧ ∀ p ∈ T.blocks, p.2.length = 512 := by
  obtain ⟨M, s, _⟩ := x
  refine ⟨s.may hl, fun p hp => ?_⟩
  rw [s.block hl] at hp
  obtain ⟨i, hi, rfl⟩ := List.mem_map.mp hp
  obtain ⟨b, eb, mb⟩ := s.keys hl hi
  rw [eb]
  exact (s.rr _ mb).2.2
theorem Iv.commit {c : Nat} {T : TM} (i : Iv c T) (hc : c < 200000) (b : ∀ x ∈ T.disk.lasts, x.length = 512) {h : Heap} {F : Nat → Prop} {u q : Option Addr} (x : Rx.RxS h F u q T) : Iv (c + 1) T.commit.1 ∧ (Wc.wal T.disk T.blocks).1.lasts.length = T.N := by
  have w := Wc.wal_cn i.cn (by omega) T.blocks
  have l := Wc.wal_len T.disk T.blocks
  have tp := i.tp
  have pe := i.pe
  refine ⟨?_, w.2⟩
  cases hl : T.over with
  | true =>
    have e0 : T.commit = (T, 61) := by unfold TM.commit; rw [hl, if_pos rfl]
    rw [e0]; exact i.next
  | false =>
    obtain ⟨M, s, y⟩ := x
    have := blocks_512 ⟨M, s, y⟩ hl
    rw [s.commit hl]
    have hn : TM.N (TM.ended (Wc.wal T.disk T.blocks).1) = T.N := w.2
    refine ⟨i.lg.wal b i.cn (by omega) (by have := i.n; unfold TM.N at this; omega) this.1 this.2, w.1.mono (by omega), ?_, ?_, Nat.zero_le _, by rw [hn]; exact i.n⟩
    · show (Wc.wal T.disk T.blocks).1.tape.length ≤ _; omega
    · show (Wc.wal T.disk T.blocks).1.pend.length ≤ _; omega
theorem arm_len (S : RD) (n : Int) (keep : List Bool) : (S.arm n keep).1.lasts = S.lasts ∧ (S.arm n keep).1.tape = S.tape ∧ (S.arm n keep).1.pend = S.pend := by unfold RD.arm; split <;> exact ⟨rfl, rfl, rfl⟩
section
variable {h1 hh : Heap} {sb kb cb c : Nat} {d q t u : Option Addr} {T : TM} {col : Nat → Nat} {K : Value → Heap → Prop}
theorem plays_spec {o : OpI} (G : Re.Glo h1) (X : Pt h1 sb kb d q t u T T hh col cb) (iv : Iv c T) (ok : o.Ok h1) (hc : c < 200000) (hcb : cb + 2 < 1000000000000)
    (hK : ∀ h' col' d' q' t' u' T', Pt h1 sb kb d' q' t' u' T' T' h' col' (cb + 2) → Iv (c + 1) T' → K (.bool true) h') : C.bolelaw06_Sides_plays (some ⟨sb, 0, none⟩) o.cells (some ⟨kb, 0, none⟩) hh K := by
  have kp := kp_tx t d T
  have kq := kp_rx u q T
  have un := iv.un
  have tp := iv.tp
  have pe := iv.pe
  refine bolelaw06_Sides_plays.ok (New.intro fun h2 n2 => ⟨_, rda n2.rd rfl, ?_⟩)
  have X2 := X.no kp kq n2.fr
  have z2 := n2.size
  have c0 : col hh.size = 0 := X.nrm _ (Nat.le_refl _)
  obtain ⟨F, x, hF⟩ := X2.x
  obtain ⟨E, y, hE⟩ := X2.y
  have nF : ¬ F hh.size := fun y => by have := hF _ y; omega
  have nFs : ¬ F sb := fun y => by have := hF _ y; have := X.sc; omega
  have l2 := X2.so.lt
  -- write
  refine ce (fun _ => ⟨_, rfl, cellsAll n2.rd, writes_spec X2 ok (by omega) fun h' col' X' => ⟨_, rfl, ?_⟩⟩) fun _ => ?_
  · obtain ⟨e1, e2⟩ := write_undo T o.n (if o.bl = 0 then List.replicate 512 o.x else o.bs)
    exact hK h' col' d q t u _ (X'.le (by omega)) (iv.same e1 e2)
  -- mark
  refine ce (fun _ => os ⟨_, rda X2.sr rfl, Tm.Mark_spec x ⟨_, _, rfl, os ⟨_, rda X2.sr rfl, Rx.Mark_spec y ⟨_, _, rfl, ce (fun _ => ?_) fun y => absurd rfl y⟩⟩⟩⟩) fun _ => ?_
  · rw [beq_self_eq_true]
    exact hK h2 col d q t u T (X2.le (by omega)) iv.next
  -- back
  refine ce (fun _ => os ⟨_, rda X2.sr rfl, _, rda n2.rd rfl, os ⟨_, rda X2.sr rfl, _, rda n2.rd rfl, Tm.Back_spec x (by omega) fun h3 f3 x3 => ⟨_, rfl, ?_⟩⟩⟩) fun _ => ?_
  · obtain ⟨col3, ag3, X3⟩ := X2.prog (P' := fun h F => Tx h F t d (T.back o.n).1) kq hF f3 (Gw.refl f3.size fun b hb => x.lt hb) x3
    have o3 : rd h3 hh.size = o.cells := (f3.rd (by omega) nF).trans n2.rd
    obtain ⟨E3, y3, hE3⟩ := X3.y
    refine ⟨rda X3.sr rfl, rda o3 rfl, Rx.Back_spec y3 fun h4 E4 f4 g4 y4 => ⟨_, rfl, ?_⟩⟩
    obtain ⟨col4, ag4, X4⟩ := X3.doc (Q' := fun h F => Rx.RxS h F u q (T.back o.n).1) (kp_tx _ _ _) hE3 f4 g4 y4
    obtain ⟨e1, e2⟩ := back_undo T o.n
    rw [beq_self_eq_true]
    exact hK h4 col4 d q t u _ (X4.le (by omega)) (iv.same e1 e2)
  -- commit
  refine ce (fun _ => os ⟨_, rda X2.sr rfl, os ⟨_, rda X2.sr rfl, Tm.Commit_spec (G.no X2.fr) x (by have := most_put y; omega) (by omega) (by omega) fun h3 F3 f3 g3 x3 => ⟨_, rfl, ?_⟩⟩⟩) fun _ => ?_
  · obtain ⟨D, dk, _⟩ := x.dk
    obtain ⟨iv3, hW⟩ := iv.commit hc dk.max.2 y
    obtain ⟨col3, ag3, X3⟩ := X2.prog (P' := fun h F => Tx h F t d T.commit.1) kq hF f3 g3 x3
    obtain ⟨E3, y3, hE3⟩ := X3.y
    refine ⟨rda X3.sr rfl, Rx.Commit_spec y3 (by omega) hW fun h4 E4 f4 g4 y4 => ⟨_, rfl, ?_⟩⟩
    obtain ⟨col4, ag4, X4⟩ := X3.doc (Q' := fun h F => Rx.RxS h F u q T.commit.1) (kp_tx _ _ _) hE3 f4 g4 y4
    rw [beq_self_eq_true]
    exact hK h4 col4 d q t u _ (X4.le (by omega)) iv3
  -- abort
  refine ce (fun _ => os ⟨_, rda X2.sr rfl, Tm.Abort_spec x fun h3 F3 f3 g3 x3 => ⟨rfl, ?_⟩⟩) fun _ => ?_
  · obtain ⟨col3, ag3, X3⟩ := X2.prog (P' := fun h F => Tx h F t d (TM.ended T.disk)) kq hF f3 g3 x3
    have o3 : rd h3 hh.size = o.cells := (f3.rd (by omega) nF).trans n2.rd
    obtain ⟨E3, y3, hE3⟩ := X3.y
    refine os ⟨_, rda X3.sr rfl, Rx.Abort6_spec y3 fun h4 f4 y4 => ⟨rfl, ?_⟩⟩
    obtain ⟨col4, ag4, X4⟩ := X3.doc (Q' := fun h F => Rx.RxS h F u q (TM.ended T.disk)) (kp_tx _ _ _) hE3 f4 (Gw.refl f4.size fun b hb => y3.lt hb) y4
    have z3 := f3.size
    have nE3 : ¬ E3 hh.size := fun w => by have := hE3 _ w; have := ag3 hh.size (by omega); omega
    have o4 : rd h4 hh.size = o.cells := (f4.rd (by omega) nE3).trans o3
    exact ⟨_, rfl, cellsAll o4, lists_spec X4 hcb fun h5 col5 X5 => ⟨_, rfl, hK h5 col5 d q t u _ X5 (iv.same (U := TM.ended T.disk) rfl (Nat.zero_le _))⟩⟩
  -- over
  obtain ⟨ub, ra, rl, rc, eu, _, _, ru⟩ := y.fields
  refine ce (fun _ => os ⟨_, rda X2.sr rfl, os ⟨_, rda X2.sr rfl, ?_⟩⟩) fun _ => ?_
  · rw [eu]
    refine os ⟨_, rda ru rfl, Tm.Over_spec x ⟨_, rfl, ?_, rda ru rfl, ?_⟩⟩
    · rw [← eu]; exact rda X2.sr rfl
    · rw [beq_self_eq_true]
      exact hK h2 col d q t u T (X2.le (by omega)) iv.next
  -- begin
  refine ce (fun _ => os ⟨_, rda X2.sr rfl, ?_⟩) fun _ => ?_
  · rw [eu]
    refine os ⟨_, rda ru rfl, cnot (cs (fun ho => ?_) fun ho => ?_)⟩
    · exact begins_spec (disks X2) fun h' col' t' u' _ _ X' => ⟨_, rfl, hK h' col' d q t' u' _ (X'.le (by omega)) (iv.same (U := ⟨T.disk, [], [], false⟩) rfl (Nat.zero_le _))⟩
    · exact hK h2 col d q t u T (X2.le (by omega)) iv.next
  -- arm
  refine ce (fun _ => os ⟨_, rda X2.sr rfl, _, rda n2.rd rfl, _, _, _, rda n2.rd rfl, os ⟨_, rda X2.sr rfl, _, rda n2.rd rfl, _, _, _, rda n2.rd rfl, ?_⟩⟩) fun _ => ?_
  · obtain ⟨D, dk, sub, back⟩ := x.onDisk
    have kk := SlCells.fr X2.fr ok.k fun _ _ y => y
    refine Wd.DiskF.armS dk ok.n ok.kl kk ok.km fun h3 D3 f3 g3 A3 => ⟨_, rfl, ?_⟩
    obtain ⟨ea1, ea2, ea3⟩ := arm_len T.disk o.n o.keep
    obtain ⟨F3, gF3, x3⟩ := back h3 D3 _ f3 g3 A3 (by rw [ea1]; rfl)
    have f3' : Fr F h2 h3 := f3.mono fun b _ y => sub b y
    obtain ⟨col3, ag3, X3⟩ := X2.prog (P' := fun h F => Tx h F t d { T with disk := (T.disk.arm o.n o.keep).1 }) kq hF f3' gF3 x3
    have o3 : rd h3 hh.size = o.cells := (f3'.rd (by omega) nF).trans n2.rd
    obtain ⟨E3, y3, hE3⟩ := X3.y
    obtain ⟨D4, rk, sub4, back4⟩ := y3.onDisk
    have nK : ∀ p, o.ka = some p → o.keep ≠ [] → p.block < h1.size := fun p e hne => by
      have K1 := ok.k
      rw [e] at K1
      exact L3.SlCells.lt K1 fun e2 => hne (List.map_eq_nil_iff.mp e2)
    have kk3 : SlCells h3 o.ka (o.keep.map .bool) := by
      by_cases e0 : o.keep = []
      · rw [e0]
        cases o.ka with
        | none => rfl
        | some p => exact Cells.nil h3 p
      · exact SlCells.fr f3' kk fun p e w => by have := hF _ w; have := X.base _ (nK p e e0); omega
    refine ⟨rda X3.sr rfl, rda o3 rfl, rda o3 rfl, rk.arm ok.n kk3 ok.kl ok.km (fun p e hne w => ?_) fun h4 E4 f4 g4 R4 => ⟨_, rfl, ?_⟩⟩
    · have := hE3 _ (sub4 _ w)
      have := nK p e hne
      have := X3.base _ this
      omega
    · obtain ⟨F4, gF4, y4⟩ := back4 h4 E4 _ f4 g4 R4 (by rw [ea1]; rfl)
      obtain ⟨col4, ag4, X4⟩ := X3.doc (Q' := fun h F => Rx.RxS h F u q { T with disk := (T.disk.arm o.n o.keep).1 }) (kp_tx _ _ _) hE3 (f4.mono fun b _ y => sub4 b y) gF4 y4
      rw [beq_self_eq_true]
      refine hK h4 col4 d q t u _ (X4.le (by omega)) ⟨iv.lg.arm _ _, (iv.cn.arm _ _).mono (by omega), ?_, ?_, ?_, ?_⟩
      · show (T.disk.arm o.n o.keep).1.tape.length ≤ _; rw [ea2]; omega
      · show (T.disk.arm o.n o.keep).1.pend.length ≤ _; rw [ea3]; omega
      · show T.undo.length ≤ _; omega
      · have : TM.N { T with disk := (T.disk.arm o.n o.keep).1 } = T.N := by unfold TM.N; rw [ea1]
        rw [this]; exact iv.n
  -- start
  refine ce (fun _ => os ⟨_, rda X2.sr rfl, ?_⟩) fun _ => ?_
  · obtain ⟨D4, rk, _, _⟩ := y.onDisk
    obtain ⟨rb, aa, ac, er, _, _, fd, _, _⟩ := rk.fields
    rw [er]
    refine os ⟨_, fd, cnot (cs (fun ho => ?_) fun ho => ?_)⟩
    · exact starts_spec G X2 ho iv.lg fun h' col' d' q' t' u' out _ _ X' on oz => ⟨_, rfl, hK h' col' d' q' t' u' _ (X'.le (by omega)) (Iv.new (by rw [on]; exact iv.n) (fun _ => oz) _)⟩
    · exact hK h2 col d q t u T (X2.le (by omega)) iv.next
  exact ⟨_, rfl, cellsAll n2.rd, lists_spec X2 hcb fun h5 col5 X5 => ⟨_, rfl, hK h5 col5 d q t u _ X5 iv.next⟩⟩
end
end Go.Proofs.YtjdcbblgaoogmaaGreatDoor.Tp
namespace Go.Proofs.YtjdcbblgaoogmaaGreatDoor.Tp
open Go Go.Proofs Wx Hp W Ad Tm
theorem mod6_spec {v n : Int} {h : Heap} {K : Value → Heap → Prop} (h0 : 0 < n) (hn : n ≤ 4611686018427387904) (hK : K (.int .i64 (Wc.modI v n)) h) : C.bolelaw06_mod v n h K := by
  have h1 := Int.tmod_lt_of_pos v h0
  have h2 := Int.lt_tmod_of_pos v h0
  refine bolelaw06_mod.ok ?_
  unfold bolelaw06_mod
  rw [if_neg (by omega)]
  unfold Wc.modI at hK
  refine cd (fun hlt => ?_) fun hlt => ?_
  · rw [if_pos hlt] at hK
    rw [wrap_i64 (by omega) (by omega)]; exact hK
  · rw [if_neg hlt] at hK; exact hK
theorem op_cell {h : Heap} {a : Option Addr} {xs : List OpI} (A : SlCells h a (xs.flatMap OpI.cells)) {j : Nat} (hj : j < xs.length) : ∃ p, a = some p ∧ Cells h (p.add (j * 5)) xs[j].cells := by
  have hl := flat_length OpI.cells 5 xs fun _ _ => rfl
  cases a with
  | none => have A : xs.flatMap OpI.cells = [] := A; rw [A] at hl; exact absurd hl (by simp; omega)
  | some p =>
    refine ⟨p, rfl, ?_⟩
    have := Cells.part A (j * 5) 5
    rw [flat_part OpI.cells 5 xs (fun _ _ => rfl) j hj] at this
    exact this
theorem begins0_spec {h : Heap} {sb : Nat} {d q : Option Addr} {S : RD} {D E : Nat → Prop} {K : Value → Heap → Prop} (o : Own h sb) (r : rd h sb = sdV d q none none) (A : DiskF h D d S) (R : Rf.RfS h E q S) (nD : ¬ D sb) (nE : ¬ E sb) (dis : ∀ b, D b → ¬ E b)
    (hK : ∀ h' t u F F2, Fr (fun b => b = sb) h h' → Own h' sb → rd h' sb = sdV d q t u → Tx h' F t d ⟨S, [], [], false⟩ → Rx.RxS h' F2 u q ⟨S, [], [], false⟩ → ¬ F sb → ¬ F2 sb → (∀ b, F b → ¬ F2 b) → (∀ b, F b → D b ∨ h.size ≤ b) → (∀ b, F2 b → E b ∨ h.size ≤ b) → K (.bool true) h') : C.bolelaw06_Sides_begins (some ⟨sb, 0, none⟩) h K := by
  have ls := o.lt
  refine bolelaw06_Sides_begins.ok (os ⟨_, rda r rfl, Tm.Begin_spec A fun tb h2 F2 f2 g2 x2 => ⟨_, rfl, ?_⟩⟩)
  have z2 := f2.size
  have o2 := f2.own ls (fun y => y) o
  have r2 := (f2.rd ls fun y => y).trans r
  have nF : ¬ F2 sb := fun y => nD ((g2.old _ ls).mp y)
  refine os (Put.add o2 (by rw [r2]; show 0 + 2 < 4; omega) fun h3 d3 => ?_)
  rw [r2] at d3
  have z3 := d3.size
  have x3 := x2.fr d3.fr fun b y e => by have e : b = sb := e; exact nF (e ▸ y)
  have R3 := (R.no f2).fr d3.fr fun b y e => by have e : b = sb := e; exact nE (e ▸ y)
  refine os ⟨_, rda d3.rd rfl, Rx.RxS.begin_ R3 fun F4 h4 f4 x4 e4 => ⟨_, rfl, ?_⟩⟩
  have z4 := f4.size
  have nF4 : ¬ F4 sb := fun y => by rcases (e4 sb).mp y with w | w
                                    · exact nE w
                                    · omega
  have r4 := (f4.rd (by omega) fun y => y).trans d3.rd
  refine os (Put.add (f4.own (by omega) (fun y => y) d3.own) (by rw [r4]; show 0 + 3 < 4; omega) fun h5 d5 => ?_)
  rw [r4] at d5
  have xt := (x3.no f4).fr d5.fr fun b y e => by have e : b = sb := e; exact nF (e ▸ y)
  have xr := x4.fr d5.fr fun b y e => by have e : b = sb := e; exact nF4 (e ▸ y)
  refine os ⟨_, rda d5.rd rfl, hK h5 _ _ F2 F4 (((f2.mono fun _ _ y => y.elim).trans d3.fr fun b _ y => y).no f4 |>.trans d5.fr fun b _ y => y) d5.own d5.rd xt xr nF nF4 (fun b y1 y2 => ?_) (fun b y => ?_) fun b y => ?_⟩
  · rcases (e4 b).mp y2 with w | w
    · exact dis b ((g2.old b (R.lt w)).mp y1) w
    · have := x3.lt y1; omega
  · rcases Nat.lt_or_ge b h.size with w | w
    · exact .inl ((g2.old b w).mp y)
    · exact .inr w
  · rcases (e4 b).mp y with w | w
    · exact .inl w
    · exact .inr (by omega)
section
variable {h1 hh : Heap} {sb kb : Nat} {ops : List OpI} {K : Value → Heap → Prop}
theorem loop_spec {d q t u : Option Addr} {T : TM} {col : Nat → Nat} {sa : Option Addr} (G : Re.Glo h1) (S : SlCells h1 sa (ops.flatMap OpI.cells)) (ok : ∀ o ∈ ops, o.Ok h1) (hn : ops.length < 200000) (X : Pt h1 sb kb d q t u T T hh col 0) (iv : Iv 0 T) (hK : ∀ h', Fr No h1 h' → K (.bool true) h') :
    ∃ (I1 : Int → Heap → Prop) (M1 : Int → Heap → Nat), I1 0 hh ∧
      ∀ (n5 : Int), ∀ h8 : Heap, I1 n5 h8 →
      bif (decide (n5 < (ops.length : Int))) then (
      (0 ≤ n5 ∧ n5 < (ops.length : Int)) ∧
      onSome sa fun p1 =>
      ∃ cs1 : List Value, List.length cs1 = 5 ∧ Cells h8 (Addr.add p1 ((Int.toNat n5) * 5)) cs1 ∧
      NewRow z67 67 cs1 5 h8 fun h10 =>
      ∃ cs2 : List Value, List.length cs2 = 5 ∧ Cells h10 ⟨h8.size, 0, none⟩ cs2 ∧
      C.bolelaw06_Sides_plays (some ⟨sb, 0, none⟩) cs2 (some ⟨kb, 0, none⟩) h10 fun r5 h11 =>
      ∃ (b2 : Bool), r5 = .bool b2 ∧
      bif (!b2) then (
      K (.bool false) h11) else (
      ∃ (q3 : Option Addr), cellOf h11 (Addr.add ⟨sb, 0, none⟩ 0) = some (.pointer q3) ∧
      C.adisk_Disk_Steps q3 h11 fun r6 h12 =>
      ∃ (n6 : Int) (n7 : Int), r6 = .tuple #[.int .i64 n6, .int .i64 n7] ∧
      ∃ (q4 : Option Addr), cellOf h12 (Addr.add ⟨sb, 0, none⟩ 1) = some (.pointer q4) ∧
      onSome q4 fun p2 =>
      ∃ (n8 : Int), cellOf h12 (Addr.add p2 5) = some (.int .i64 n8) ∧
      bif (n6 != n8) then (
      K (.bool false) h12) else (
      ∃ (q5 : Option Addr), cellOf h12 (Addr.add ⟨sb, 0, none⟩ 1) = some (.pointer q5) ∧
      onSome q5 fun p3 =>
      ∃ (n9 : Int), cellOf h12 (Addr.add p3 6) = some (.int .i64 n9) ∧
      bif (n7 != n9) then (
      K (.bool false) h12) else (
      ∃ (q6 : Option Addr), cellOf h12 (Addr.add ⟨sb, 0, none⟩ 0) = some (.pointer q6) ∧
      ∃ (q7 : Option Addr), cellOf h12 (Addr.add ⟨sb, 0, none⟩ 1) = some (.pointer q7) ∧
      onSome q7 fun p4 =>
      ∃ (b3 : Bool), cellOf h12 (Addr.add p4 4) = some (.bool b3) ∧
      C.adisk_Disk_Down q6 h12 fun r7 h13 =>
      ∃ (b4 : Bool), r7 = .bool b4 ∧
      (cellOf h13 (Addr.add ⟨sb, 0, none⟩ 1) = some (.pointer q7)) ∧
      (cellOf h13 (Addr.add p4 4) = some (.bool b3)) ∧
      bif (!(b4 == b3)) then (
      K (.bool false) h13) else (
      I1 (IntKind.wrap .i64 (n5 + 1)) h13 ∧ M1 (IntKind.wrap .i64 (n5 + 1)) h13 < M1 n5 h8))))) else (
      ∃ (q8 : Option Addr), cellOf h8 (Addr.add ⟨sb, 0, none⟩ 2) = some (.pointer q8) ∧
      ∃ (q9 : Option Addr), cellOf h8 (Addr.add ⟨sb, 0, none⟩ 3) = some (.pointer q9) ∧
      onSome q9 fun p5 =>
      ∃ (b5 : Bool), cellOf h8 (Addr.add p5 2) = some (.bool b5) ∧
      C.txn_Txn_Over q8 h8 fun r8 h14 =>
      ∃ (b6 : Bool), r8 = .bool b6 ∧
      (cellOf h14 (Addr.add ⟨sb, 0, none⟩ 3) = some (.pointer q9)) ∧
      (cellOf h14 (Addr.add p5 2) = some (.bool b5)) ∧
      bif (b6 == b5) then (
      C.bolelaw06_Sides_lists (some ⟨sb, 0, none⟩) [.int .i64 3, .int .i64 0, .int .u8 0, .slice none 0 0, .slice none 0 0] (some ⟨kb, 0, none⟩) h14 fun r9 h15 =>
      ∃ (b7 : Bool), r9 = .bool b7 ∧
      bif b7 then (
      ∃ (q10 : Option Addr), cellOf h15 (Addr.add ⟨sb, 0, none⟩ 0) = some (.pointer q10) ∧
      ∃ (q11 : Option Addr), cellOf h15 (Addr.add ⟨sb, 0, none⟩ 1) = some (.pointer q11) ∧
      C.adisk_Disk_Image q10 h15 fun r10 h16 =>
      ∃ (sA1 : Option Addr) (sL1 : Nat) (sC1 : Nat), r10 = .slice sA1 sL1 sC1 ∧
      (cellOf h16 (Addr.add ⟨sb, 0, none⟩ 1) = some (.pointer q11)) ∧
      ∃ bs1 : List UInt8, StrAt h16 sA1 sL1 bs1 ∧
      C.boleref03_Disk_Image q11 h16 fun r11 h17 =>
      ∃ (sA2 : Option Addr) (sL2 : Nat) (sC2 : Nat), r11 = .slice sA2 sL2 sC2 ∧
      StrAt h17 sA1 sL1 (ByteArray.toList (mkStr bs1)) ∧
      ∃ bs2 : List UInt8, StrAt h17 sA2 sL2 bs2 ∧
      bif ((mkStr bs1).toList == (mkStr bs2).toList) then (
      C.bolelaw06_Book_holds (some ⟨kb, 0, none⟩) h17 fun r12 h18 =>
      ∃ (b8 : Bool), r12 = .bool b8 ∧
      K (.bool b8) h18) else (
      K (.bool false) h17)) else (
      K (.bool false) h15)) else (
      K (.bool false) h14)) := by
  refine ⟨fun n hh => ∃ (j : Nat) (col : Nat → Nat) (d q t u : Option Addr) (T : TM), n = j ∧ j ≤ ops.length ∧ Pt h1 sb kb d q t u T T hh col (2 * j) ∧ Iv j T, fun n _ => ((ops.length : Int) - n).toNat, ⟨0, col, d, q, t, u, T, rfl, Nat.zero_le _, X, iv⟩, ?_⟩
  clear X iv T col d q t u
  rintro _ h8 ⟨j, col, d, q, t, u, T, rfl, hj, X, iv⟩
  have kp := kp_tx t d T
  have kq := kp_rx u q T
  refine cd (fun hlt => ?_) fun hlt => ?_
  · have hj' : j < ops.length := by omega
    obtain ⟨p, ep, cp⟩ := op_cell (SlCells.fr X.fr S fun _ _ y => y) hj'
    rw [Int.toNat_natCast, wrap_i64 (n := (j : Int) + 1) (by omega) (by omega)]
    refine ⟨⟨by omega, hlt⟩, Rz.oe ep ⟨_, rfl, cp, NewRow.intro rfl (OpI.one _) rfl fun h10 n10 => ⟨_, rfl, cellsAll n10.rd, ?_⟩⟩⟩
    refine plays_spec G (X.no kp kq n10.fr) iv (ok _ (List.getElem_mem hj')) (by omega) (by omega) fun h11 col11 d' q' t' u' T' X11 iv11 => ⟨_, rfl, cnot (ct rfl ?_)⟩
    have Y := disks X11
    obtain ⟨D, A, _⟩ := Y.x
    obtain ⟨E, R, _⟩ := Y.y
    obtain ⟨rb, aa, ac, er, _, _, f4, f5, f6⟩ := R.fields
    refine ⟨_, rda Y.sr rfl, Wc.diskSteps A ⟨_, _, rfl, _, rda Y.sr rfl, ?_⟩⟩
    rw [er]
    refine os ⟨_, f5, cn (fun y => absurd rfl y) fun _ => ⟨_, rda Y.sr (by rw [er]; rfl), os ⟨_, f6, cn (fun y => absurd rfl y) fun _ => ⟨_, rda Y.sr rfl, _, rda Y.sr (by rw [er]; rfl), os ⟨_, f4, Wc.DiskF.down A ⟨_, rfl, rda Y.sr (by rw [er]; rfl), f4, cnot (ct (beq_self_eq_true _) ⟨⟨j + 1, col11, d', q', t', u', T', rfl, hj', X11.le (by omega), iv11⟩, falls hlt⟩)⟩⟩⟩⟩⟩⟩
  · obtain ⟨F, x, _⟩ := X.x
    obtain ⟨E, y, _⟩ := X.y
    obtain ⟨ub, ra, rl, rc, eu, _, _, ru⟩ := y.fields
    refine ⟨_, rda X.sr rfl, _, rda X.sr rfl, ?_⟩
    rw [eu]
    refine os ⟨_, rda ru rfl, Tm.Over_spec x ⟨_, rfl, rda X.sr (by rw [eu]; rfl), rda ru rfl, ct (beq_self_eq_true _) ?_⟩⟩
    refine lists_spec (o := ⟨3, 0, 0, none, 0, 0, [], none, 0, 0, []⟩) X (by omega) fun h15 col15 X15 => ⟨_, rfl, ct rfl ?_⟩
    have Y := disks X15
    obtain ⟨D, A, _⟩ := Y.x
    refine ⟨_, rda Y.sr rfl, _, rda Y.sr rfl, Wc.diskImage A fun a16 c16 h16 f16 s16 => ⟨_, _, _, rfl, ?_⟩⟩
    have Y16 := Y.no (kp_dk _ _) (kp_rf _ _) f16
    obtain ⟨E16, R, _⟩ := Y16.y
    refine ⟨rda Y16.sr rfl, _, s16.str, R.image fun a17 l17 c17 h17 f17 s17 => ⟨_, _, _, rfl, by rw [toList_mkStr]; exact StrAt.fr f17 s16.str fun _ _ y => y, _, s17.str, ct (beq_self_eq_true _) ?_⟩⟩
    have Y17 := Y16.no (kp_dk _ _) (kp_rf _ _) f17
    obtain ⟨xs, is, B⟩ := Y17.bk
    refine Ap.holds_spec B (by omega) fun h18 col18 f18 _ => ⟨_, rfl, hK h18 (Y17.fr.trans f18 fun b hb y => ?_)⟩
    have := Y17.base b hb
    omega
theorem TxnPlays_spec {h : Heap} {n : Int} {sa : Option Addr} {sc : Nat} {ops : List OpI} (G : Re.Glo h) (S : SlCells h sa (ops.flatMap OpI.cells)) (ok : ∀ o ∈ ops, o.Ok h) (hn : ops.length < 200000) (hK : ∀ h', Fr No h h' → K (.bool true) h') : C.bolelaw06_TxnPlays n sa ops.length sc h K := by
  have hr := Wc.modI_range (v := n) (n := 34) (by decide)
  refine bolelaw06_TxnPlays.ok (mod6_spec (by decide) (by decide) ⟨_, rfl, ?_⟩)
  rw [wrap_i64 (n := 90 + Wc.modI n 34) (by omega) (by omega)]
  refine Rf.newF_spec (fun y => by omega) fun _ _ d h3 D f3 gD A3 => ⟨_, _, rfl, Rf.RfS.new (fun y => by omega) fun _ _ q h4 E f4 gE R4 => ⟨_, _, rfl, cn (fun y => absurd rfl y) fun _ => cf rfl (cf rfl ?_)⟩⟩
  unfold bolelaw06_TxnPlays.k1
  refine New.intro fun h5 n5 => ?_
  have z3 := f3.size
  have z4 := f4.size
  have z5 := n5.size
  have A5 := (A3.no f4).no n5.fr
  have R5 := R4.no n5.fr
  refine begins0_spec n5.own n5.rd A5 R5 (fun y => by have := A3.lt y; omega) (fun y => by have := R4.lt y; omega) (fun b y1 y2 => by have := A3.lt y1; have := gE b y2; omega) fun h6 t u F F2 f6 o6 r6 x6 y6 nF nF2 dis gF gF2 => ⟨_, rfl, cnot (ct rfl (New.intro fun h7 n7 => ?_))⟩
  have z6 := f6.size
  have z7 := n7.size
  have lo : ∀ b, F b ∨ F2 b → h.size ≤ b ∧ b < h6.size := fun b y => by
    rcases y with y | y
    · have := x6.lt y
      rcases gF b y with w | w
      · have := gD b w; omega
      · omega
    · have := y6.lt y
      rcases gF2 b y with w | w
      · have := gE b w; omega
      · omega
  obtain ⟨col, k1, k2, k3, k30, k0⟩ : ∃ col : Nat → Nat, col h4.size = 1 ∧ (∀ b, F b → col b = 2) ∧ (∀ b, F2 b → col b = 3) ∧ col h6.size = 30 ∧ ∀ b, b ≠ h4.size → ¬ F b → ¬ F2 b → b ≠ h6.size → col b = 0 := by
    refine ⟨fun b => if b = h4.size then 1 else if b = h6.size then 30 else @ite _ (F b) (Classical.propDecidable _) 2 (@ite _ (F2 b) (Classical.propDecidable _) 3 0), if_pos rfl, fun b y => ?_, fun b y => ?_, ?_, fun b y1 y2 y3 y4 => ?_⟩
    · show (if b = h4.size then 1 else if b = h6.size then 30 else _) = 2
      rw [if_neg (show ¬ b = h4.size from fun e => nF (e ▸ y)), if_neg (by have := (lo b (.inl y)).2; omega), if_pos y]
    · show (if b = h4.size then 1 else if b = h6.size then 30 else _) = 3
      rw [if_neg (show ¬ b = h4.size from fun e => nF2 (e ▸ y)), if_neg (by have := (lo b (.inr y)).2; omega), if_neg (fun w => dis b w y), if_pos y]
    · show (if h6.size = h4.size then 1 else if h6.size = h6.size then 30 else _) = 30
      rw [if_neg (by omega), if_pos rfl]
    · show (if b = h4.size then 1 else if b = h6.size then 30 else _) = 0
      rw [if_neg y1, if_neg y4, if_neg y2, if_neg y3]
  have f05 : Fr No h h5 := (f3.no f4).new n5
  have X : Pt h h4.size h6.size (some d) (some q) t u ⟨fresh (List.replicate (90 + Wc.modI n 34).toNat zeroBlk), [], [], false⟩ ⟨fresh (List.replicate (90 + Wc.modI n 34).toNat zeroBlk), [], [], false⟩ h7 col 0 := by
    refine ⟨(f05.trans f6 fun b hb y => by have y : b = h4.size := y; omega).new n7, fun b hb => k0 b (by omega) (fun y => by have := (lo b (.inl y)).2; omega) (fun y => by have := (lo b (.inr y)).2; omega) (by omega), fun b hb => k0 b (by omega) (fun y => by have := (lo b (.inl y)).1; omega) (fun y => by have := (lo b (.inr y)).1; omega) (by omega), k1, n7.ow o6, (n7.at_ o6.lt).trans r6, ⟨F, x6.no n7.fr, k2⟩, ⟨F2, y6.no n7.fr, k3⟩, [], [], k30, n7.own, ⟨none, 0, none, 0, none, 0, none, 0, none, 0, n7.rd, Sl.nil _ _ _, Sl.nil _ _ _, Sl.nil _ _ _, Sl.nil _ _ _, Sl.nil _ _ _⟩, fun i hi => absurd hi (Nat.not_lt_zero _), fun i hi => absurd hi (Nat.not_lt_zero _), fun i hi => absurd hi (Nat.not_lt_zero _), Nat.le_refl _, Nat.le_refl _, Nat.le_refl _⟩
  have ez : (List.replicate (90 + Wc.modI n 34).toNat zeroBlk)[1]? = some (Hd.zeros 512) := by
    rw [List.getElem?_replicate, if_pos (by omega)]; rfl
  exact loop_spec G S ok hn X (Iv.new (by rw [List.length_replicate]; omega) (fun _ => ez) 0) hK
end
end Go.Proofs.YtjdcbblgaoogmaaGreatDoor.Tp
namespace Go.Proofs.YtjdcbblgaoogmaaGreatDoor
open Go Go.ChangeShapes Go.WideShapes Go.ChangeAt Go.RowKit Go.Proofs.YtjdcbblgaoogmaaGreatDoor.Wx Go.Proofs.YtjdcbblgaoogmaaGreatDoor.Hp Go.Proofs.YtjdcbblgaoogmaaGreatDoor.Gl
theorem Tryz.cellsInt : Tryz.prog.cellsOf 3 = 1 := by kernel_rfl
theorem Tryz.cellsBools : Tryz.prog.cellsOf 39 = 1 := by kernel_rfl
theorem Tryz.cellsOp6 : Tryz.prog.cellsOf 67 = 5 := by kernel_rfl
theorem one_bool {H : Type} {enc : TypeId × Value → H} {W : World} (n : Nat) (cs : List Value) (y : DataW H × List MemPlace) (h : DataW.trod enc Tryz.prog W 0 (fun _ => true) true n 4 cs = some y) : ∃ x : Bool, cs = [Value.bool x] ∧ True := by
  obtain ⟨b, e, _⟩ := DataW.trod_bool Tryz.underlying4 h
  exact ⟨b, e, trivial⟩
def OpQ {H : Type} (W : World) (d : DataW H) (o : Tp.OpI) : Prop :=
  StrAt W.heap o.ba o.bl o.bs ∧ o.bl ≤ Rows.uptoBulk d ∧ o.n ≤ 9223372036854775807 ∧ SlCells W.heap o.ka (o.keep.map .bool) ∧ o.keep.length = o.kl ∧ o.kl ≤ Rows.uptoBulk d
set_option maxRecDepth 100000 in
theorem one_op6 {H : Type} {enc : TypeId × Value → H} {W : World} (n : Nat) (cs : List Value) (y : DataW H × List MemPlace) (h : DataW.trod enc Tryz.prog W 0 (fun _ => true) true n 67 cs = some y) : (∃ x : Tp.OpI, cs = x.cells ∧ OpQ W y.1 x) ∧ 6 ≤ Rows.uptoBulk y.1 := by
  obtain ⟨y0, y1, y2, y3, y4, k, hy, hl, h0, h1, h2, h3, h4⟩ := trod_struct5 Tryz.underlying67 h
  rw [Tryz.cellsOp6] at hl
  simp only [Tryz.cellsInt, Tryz.cellsByte, Tryz.cellsBytes, Tryz.cellsBools] at h0 h1 h2 h3 h4
  match cs, hl with
  | [a, b, c, d, e], _ =>
    obtain ⟨n0, e0, _, _⟩ := DataW.trod_int Tryz.underlying3 h0
    obtain ⟨n1, e1, _, w1⟩ := DataW.trod_int Tryz.underlying3 h1
    obtain ⟨n2, e2, _, w2⟩ := DataW.trod_int Tryz.underlying5 h2
    obtain ⟨sa, sl, sc, bs, e3, B, hlc, room⟩ := inner_bytes Tryz.underlying37 Tryz.underlying5 Tryz.cellsByte h3
    obtain ⟨ka, kl, kc, ks, e4, B4, hk, hkc, room4, _⟩ := inner_rowW (α := Bool) (fun b => [Value.bool b]) (fun _ _ => True) (fun _ => rfl) Tryz.underlying39 Tryz.cellsBool h4 one_bool
    rw [flat_map1] at B4
    have e0 : a = .int .i64 n0 := by simpa using e0
    have e1 : b = .int .i64 n1 := by simpa using e1
    have e2 : c = .int .u8 n2 := by simpa using e2
    have e3 : d = .slice sa sl sc := by simpa using e3
    have e4 : e = .slice ka kl kc := by simpa using e4
    have m3 := room_bulk room
    have m4 := room_bulk room4
    have b0 := bulk_one y0.1
    have b1 := bulk_one y1.1
    have b2 := bulk_one y2.1
    have b3 := bulk_one y3.1
    have b4 := bulk_one y4.1
    have eb : Rows.uptoBulk y.1 = Rows.uptoBulk y0.1 + (Rows.uptoBulk y1.1 + (Rows.uptoBulk y2.1 + (Rows.uptoBulk y3.1 + (Rows.uptoBulk y4.1 + 0)))) + 1 := by
      rw [hy]; simp only [Rows.uptoBulk, Rows.uptoBulkAll]
    refine ⟨⟨⟨n0, n1, UInt8.ofNat n2.toNat, sa, sl, sc, bs, ka, kl, kc, ks⟩, by rw [e0, e1, e2, e3, e4, Tp.OpI.cells, bv_of w2], B, ?_, (int_range w1).2, B4, hk, ?_⟩, by omega⟩
    · show sl ≤ _
      omega
    · show kl ≤ _
      omega
theorem laid_met (os : Os) : laidMet Tryz.prog Rows.txnPlaysUptoRow.laid ((laidWorld os).forCall (fun _ _ => 0) ⟨#[], #[.int .i64 0, .slice none 0 0], []⟩).memory :=
  laidMet_of_run' 8 (by kernel_rfl) (by kernel_rfl)
theorem reads (os : Os) {H : Type} (enc : TypeId × Value → H) : ∃ places, DataW.whole enc Tryz.prog ((laidWorld os).forCall (fun _ _ => 0) ⟨#[], #[.int .i64 0, .slice none 0 0], []⟩).memory Tryz.f4.params.toList Rows.txnPlaysSpec.vars false #[Value.int .i64 0, .slice none 0 0].toList 8 = some ([.lit (.int .i64 0), .nil], [], places) :=
  ⟨[], by kernel_rfl⟩
set_option maxRecDepth 100000 in
theorem tplay_lifted (os : Os) (started : os.Started) (H : Type) (enc : TypeId × Value → H) (F : Stop.Interp) :
    ReturnsInHanded {} Tryz.checked os 4 .any ((Rows.OpenSpec.upto Rows.txnPlaysSpec).preRow enc Tryz.prog Tryz.f4 Rows.txnPlaysUptoRow.domain false Rows.txnPlaysUptoRow.laid) (((Rows.OpenSpec.upto Rows.txnPlaysSpec).at F).post enc Tryz.prog Tryz.f4 false true false false) := by
  obtain ⟨places, hx⟩ := reads os enc
  refine lifted_rowU (C := Tryz.checked) (P := Tryz.prog) (s := Rows.txnPlaysSpec) (tb := 4) rfl Tryz.own started (by kernel_rfl) Tryz.func4
    (witness_row_at (enc := enc) (C := Tryz.checked) false (laidWorld os) #[.int .i64 0, .slice none 0 0] rfl (by kernel_rfl) (by kernel_rfl) (by kernel_rfl)
      (OpenSpec.preRow_of_cond 8 hx (by kernel_rfl) (fun k hk => by cases hk; kernel_rfl) (by kernel_rfl) (laid_met os)))
    Tryz.laidOut (by kernel_rfl) (by kernel_rfl) Tryz.underlying4 rfl ?_ ?_
  · intro ds hl
    rw [Tryz.params4] at hl
    match ds, hl with
    | [_, _], _ => exact ⟨rfl, rfl, rfl⟩
  · intro W base args ds ps hval hA hsz hL hB
    rw [Tryz.params4] at hA hval
    obtain ⟨v0, v1, d0, d1, p0, p1, rfl, rfl, rfl, h0, h1⟩ := trodAll_two hA
    obtain ⟨n, rfl, rfl, rfl, _⟩ := open_int Tryz.underlying3 (hval 0 3 v0 rfl rfl) h0
    obtain ⟨a1, l1, c1, xs, rfl, B1, he, hlc1, most, hq⟩ := open_rowB (α := Tp.OpI) (m := 6) Tp.OpI.cells (OpQ W) (fun _ => rfl) Tryz.underlying55 Tryz.cellsOp6 (hval 1 55 v1 rfl rfl) h1 one_op6
    simp only [Rows.uptoBulkAll] at hB
    subst he
    refine Tp.TxnPlays_spec (tables hL) B1 (fun o ho => ?_) (by omega) true_mk
    obtain ⟨i, hi, rfl⟩ := List.mem_iff_getElem.mp ho
    obtain ⟨y, hby, x1, x2, x3, x4, x5, x6⟩ := hq i hi
    exact ⟨x1, by omega, x3, x4, x5, by omega⟩
theorem tplay_said : Rows.TxnPlaysUptoSaid :=
  OpenClaim.holds_of_cond 4 Tryz.f4 rfl rfl rfl rfl rfl rfl rfl ⟨rfl, rfl, rfl, rfl, rfl⟩ rfl rfl rfl rfl rfl (by kernel_rfl) Tryz.func4 (by kernel_rfl)
    (of_decide_eq_true (by kernel_rfl)) (by unfold Func.isWrapper; first | (rw [if_pos (by decide +kernel)]; kernel_rfl) | (rw [if_neg (by decide +kernel)]; exact ⟨rfl, rfl⟩))
    (fun os started H enc _ F => by rw [OpenClaim.pre_eq_preRow]; exact tplay_lifted os started H enc F)
theorem tplay_plain (f : FuncId) (fn : Func) (hf : Tryz.pinned.checked.prog.funcNamed "bole/bolelaw06.TxnPlays" = some f) (hfn : Tryz.pinned.checked.prog.funcs[f]? = some fn) :
    true = Tryz.pinned.checked.prog.looks [] ∧ ∀ (j : Nat) t, fn.params[j]? = some t → Tryz.pinned.checked.prog.wantsStandIn t = false := by
  obtain rfl : f = 4 := Option.some.inj ((show Tryz.prog.funcNamed "bole/bolelaw06.TxnPlays" = some 4 by kernel_rfl).symm.trans hf) |>.symm
  obtain rfl : fn = Tryz.f4 := (Option.some.inj (Tryz.func4.symm.trans hfn)).symm
  refine ⟨by kernel_rfl, fun j t ht => ?_⟩
  rw [Tryz.params4] at ht
  have := Array.mem_of_getElem? ht
  have : t = 3 ∨ t = 55 := by simpa using this
  rcases this with rfl | rfl
  · exact (show Tryz.prog.wantsStandIn 3 = false by kernel_rfl)
  · exact (show Tryz.prog.wantsStandIn 55 = false by kernel_rfl)
theorem txnPlays_card : Rows.TxnPlaysUptoCardSaid :=
  Claim7.holds_tied_plain_at .later [] _ _ _ _ tplay_said (fun _ h => by cases h) (by kernel_rfl) (fun _ h => by cases h) txnPlaysUpto_row_tie rfl ⟨rfl, rfl⟩ (by kernel_rfl) rfl tplay_plain (by kernel_rfl)
end Go.Proofs.YtjdcbblgaoogmaaGreatDoor
