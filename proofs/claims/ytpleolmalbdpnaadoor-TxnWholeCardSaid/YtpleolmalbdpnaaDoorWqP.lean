import Derived.Test.YtpleolmalbdpnaaDoorWhA
import Derived.Test.YtpleolmalbdpnaaDoorWhP
import Derived.Test.YtpleolmalbdpnaaDoorTcP
/-
  A COMMIT THAT IS CUT, plainly.
-/
namespace Go.Proofs.YtpleolmalbdpnaaDoor.Wc
open Go Go.Proofs Go.Proofs.YtpleolmalbdpnaaDoor.Wx Go.Proofs.YtpleolmalbdpnaaDoor.Hp Go.Proofs.YtpleolmalbdpnaaDoor.W Go.Proofs.YtpleolmalbdpnaaDoor.Ad

/-- numbers that rise, blocks of 512 bytes -/
structure Rise (n : Int) (l : Nb) : Prop where
  up : (l.map (·.1)).Pairwise (· < ·)
  rng : ∀ p ∈ l, 98 ≤ p.1 ∧ p.1 < n
  len : ∀ p ∈ l, p.2.length = 512
theorem Rise.uniq {n : Int} {l : Nb} (r : Rise n l) {i : Int} {b c : List UInt8} (hb : (i, b) ∈ l) (hc : (i, c) ∈ l) : c = b := by
  obtain ⟨x, hx, ex⟩ := List.getElem_of_mem hb
  obtain ⟨y, hy, ey⟩ := List.getElem_of_mem hc
  have inj : x = y := by
    have p := r.up
    rw [List.pairwise_iff_getElem] at p
    rcases Nat.lt_trichotomy x y with q | q | q
    · have := p x y (by rw [List.length_map]; exact hx) (by rw [List.length_map]; exact hy) q
      rw [List.getElem_map, List.getElem_map, ex, ey] at this
      exact absurd this (by simp)
    · exact q
    · have := p y x (by rw [List.length_map]; exact hy) (by rw [List.length_map]; exact hx) q
      rw [List.getElem_map, List.getElem_map, ex, ey] at this
      exact absurd this (by simp)
  subst inj
  exact (congrArg Prod.snd (ex.symm.trans ey)).symm
/-- the same blocks, the log's data aside -/
def Al (N : Nat) (a b : List (List UInt8)) : Prop := a.length = N ∧ b.length = N ∧ (∀ x ∈ a, x.length = 512) ∧ (∀ x ∈ b, x.length = 512) ∧ ∀ i : Nat, i < 2 ∨ 98 ≤ i → a[i]? = b[i]?
def Valid (N : Nat) (xs : List Stp) : Prop := ∀ s ∈ xs, match s with
  | .w i b => 0 ≤ i ∧ i < (N : Int) ∧ b.length = 512
  | .f => True
def semL : List Stp → List (List UInt8) → Nb → List (List UInt8)
  | [], L, _ => L
  | .w i b :: r, L, P => semL r L (P ++ [(i, b)])
  | .f :: r, L, P => semL r (applyTo L P) []
/-- what lasts where the power goes at step c -/
def cutL (keep : List Bool) : List Stp → Nat → List (List UInt8) → Nb → List (List UInt8)
  | [], _, L, P => applyTo L (chosen P keep)
  | .w i b :: r, c, L, P => if c ≤ 1 then applyTo L (chosen (P ++ [(i, b)]) keep) else cutL keep r (c - 1) L (P ++ [(i, b)])
  | .f :: r, c, L, P => if c ≤ 1 then applyTo L (chosen P keep) else cutL keep r (c - 1) (applyTo L P) []
theorem run_armed (keep : List Bool) : ∀ (xs : List Stp) (S : RD) (c : Nat), S.down = false → S.left = c → S.keep = keep → 0 < c → Valid S.lasts.length xs →
    (xs.length < c → ∃ S', runS xs S = (S', 0) ∧ S'.down = false ∧ S'.lasts = semL xs S.lasts S.pend) ∧ (c ≤ xs.length → ∃ S', runS xs S = (S', 30) ∧ S'.down = true ∧ S'.pend = [] ∧ S'.lasts = cutL keep xs c S.lasts S.pend)
  | [], S, c, hd, _, _, h0, _ => ⟨fun _ => ⟨S, rfl, hd, rfl⟩, fun h => by have h : c ≤ 0 := h; omega⟩
  | s :: r, S, c, hd, hl, hk, h0, hv => by
    have hs := hv s (List.mem_cons_self ..)
    have hr : Valid S.lasts.length r := fun x hx => hv x (List.mem_cons_of_mem _ hx)
    -- one step
    have one : ∀ (S1 : RD) (f : RD → RD), S1.left = c → S1.keep = keep → (s.on S) = S1.step f → (∀ x : Int, (f { S1 with left := x }).down = false ∧ (f { S1 with left := x }).left = x ∧ (f { S1 with left := x }).keep = keep) →
        (c = 1 → s.on S = (RD.cut { S1 with left := 0 } keep, 30)) ∧ (1 < c → s.on S = (f { S1 with left := (c : Int) - 1 }, 0)) := by
      intro S1 f e1 ek es _
      rw [es]
      unfold RD.step
      rw [e1, if_pos (by omega)]
      refine ⟨fun h => ?_, fun h => ?_⟩
      · rw [if_pos (by omega), ek, h]; rfl
      · rw [if_neg (by omega)]
    have tail : ∀ (S2 : RD), s.on S = (S2, 0) → S2.down = false → S2.left = (c : Int) - 1 → S2.keep = keep → S2.lasts.length = S.lasts.length → 1 < c →
        ((s :: r).length < c → ∃ S', runS (s :: r) S = (S', 0) ∧ S'.down = false ∧ S'.lasts = semL r S2.lasts S2.pend) ∧ (c ≤ (s :: r).length → ∃ S', runS (s :: r) S = (S', 30) ∧ S'.down = true ∧ S'.pend = [] ∧ S'.lasts = cutL keep r (c - 1) S2.lasts S2.pend) := by
      intro S2 e d2 l2 k2 n2 hc
      obtain ⟨a, b⟩ := run_armed keep r S2 (c - 1) d2 (by rw [l2]; omega) k2 (by omega) (by rw [n2]; exact hr)
      have er : runS (s :: r) S = runS r S2 := by
        show (if (s.on S).2 = 0 then runS r (s.on S).1 else s.on S) = _
        rw [e, if_pos rfl]
      rw [er]
      exact ⟨fun h => a (by rw [List.length_cons] at h; omega), fun h => b (by rw [List.length_cons] at h; omega)⟩
    have cutR : ∀ (S2 : RD), s.on S = (S2, 30) → S2.down = true → S2.pend = [] → ((s :: r).length < c → False) → ∃ S', runS (s :: r) S = (S', 30) ∧ S'.down = true ∧ S'.pend = [] ∧ S'.lasts = S2.lasts := by
      intro S2 e d2 p2 _
      refine ⟨S2, ?_, d2, p2, rfl⟩
      show (if (s.on S).2 = 0 then runS r (s.on S).1 else s.on S) = _
      rw [e]
      exact if_neg (show ¬ ((30 : Int) = 0) by decide)
    cases s with
    | w i b =>
      have hs : 0 ≤ i ∧ i < (S.lasts.length : Int) ∧ b.length = 512 := hs
      have es : (Stp.w i b).on S = (S.putW i b).step id := by
        show S.write i b = _
        unfold RD.write
        rw [hd, if_neg (by simp), if_neg (fun x => x ⟨hs.1, hs.2.1⟩), if_neg (fun x => x hs.2.2)]
      obtain ⟨o1, o2⟩ := one (S.putW i b) id hl hk es fun x => ⟨hd, rfl, hk⟩
      by_cases hc : c = 1
      · have e := o1 hc
        refine ⟨fun h => by rw [List.length_cons] at h; omega, fun _ => ?_⟩
        obtain ⟨S', x, y, z, w⟩ := cutR _ e rfl rfl (fun h => by rw [List.length_cons] at h; omega)
        refine ⟨S', x, y, z, ?_⟩
        rw [w]
        show applyTo S.lasts (chosen (S.pend ++ [(i, b)]) keep) = if c ≤ 1 then _ else _
        rw [if_pos (by omega)]
      · obtain ⟨a, b'⟩ := tail _ (o2 (by omega)) hd rfl hk rfl (by omega)
        refine ⟨a, fun h => ?_⟩
        obtain ⟨S', x, y, z, w⟩ := b' h
        refine ⟨S', x, y, z, ?_⟩
        rw [w]
        show _ = if c ≤ 1 then _ else _
        rw [if_neg (by omega)]; rfl
    | f =>
      have es : (Stp.f).on S = RD.step { S with flushes := IntKind.wrap .i64 (S.flushes + 1) } RD.flushed := by
        show S.flush = _
        unfold RD.flush
        rw [hd, if_neg (by simp)]
      obtain ⟨o1, o2⟩ := one { S with flushes := IntKind.wrap .i64 (S.flushes + 1) } RD.flushed hl hk es fun x => ⟨hd, rfl, hk⟩
      by_cases hc : c = 1
      · have e := o1 hc
        refine ⟨fun h => by rw [List.length_cons] at h; omega, fun _ => ?_⟩
        obtain ⟨S', x, y, z, w⟩ := cutR _ e rfl rfl (fun h => by rw [List.length_cons] at h; omega)
        refine ⟨S', x, y, z, ?_⟩
        rw [w]
        show applyTo S.lasts (chosen S.pend keep) = if c ≤ 1 then _ else _
        rw [if_pos (by omega)]
      · obtain ⟨a, b'⟩ := tail _ (o2 (by omega)) hd rfl hk (by show (applyTo S.lasts S.pend).length = _; exact applyTo_length _ _) (by omega)
        refine ⟨a, fun h => ?_⟩
        obtain ⟨S', x, y, z, w⟩ := b' h
        refine ⟨S', x, y, z, ?_⟩
        rw [w]
        show _ = if c ≤ 1 then _ else _
        rw [if_neg (by omega)]; rfl
theorem cut_ws (keep : List Bool) : ∀ (m : Nb) (r : List Stp) (c : Nat) (L : List (List UInt8)) (P : Nb), 0 < c →
    cutL keep (ws m ++ Stp.f :: r) c L P = if c ≤ m.length + 1 then applyTo L (chosen (P ++ m.take c) keep) else cutL keep r (c - m.length - 1) (applyTo L (P ++ m)) []
  | [], r, c, L, P, h0 => by
    show (if c ≤ 1 then applyTo L (chosen P keep) else cutL keep r (c - 1) (applyTo L P) []) = _
    rw [List.take_nil, List.append_nil]; rfl
  | p :: m, r, c, L, P, h0 => by
    show (if c ≤ 1 then applyTo L (chosen (P ++ [(p.1, p.2)]) keep) else cutL keep (ws m ++ Stp.f :: r) (c - 1) L (P ++ [(p.1, p.2)])) = _
    by_cases hc : c ≤ 1
    · have : c = 1 := by omega
      subst this
      rw [if_pos (by omega), if_pos (by rw [List.length_cons]; omega)]; rfl
    · rw [if_neg hc, cut_ws keep m r (c - 1) L _ (by omega), List.length_cons]
      obtain ⟨d, rfl⟩ : ∃ d, c = d + 2 := ⟨c - 2, by omega⟩
      have e1 : (p :: m).take (d + 2) = p :: m.take (d + 1) := rfl
      rw [e1, List.append_assoc, List.append_assoc]
      by_cases h : d + 2 ≤ m.length + 1 + 1
      · rw [if_pos (by omega), if_pos h]; rfl
      · rw [if_neg (by omega), if_neg h, show d + 2 - (m.length + 1) - 1 = d + 2 - 1 - m.length - 1 by omega]; rfl
theorem sem_ws : ∀ (m : Nb) (r : List Stp) (L : List (List UInt8)) (P : Nb), semL (ws m ++ Stp.f :: r) L P = semL r (applyTo L (P ++ m)) []
  | [], r, L, P => by show semL r (applyTo L P) [] = _; rw [List.append_nil]
  | p :: m, r, L, P => by
    show semL (ws m ++ Stp.f :: r) L (P ++ [(p.1, p.2)]) = _
    rw [sem_ws m, List.append_assoc]; rfl
theorem chosen_mem {ps : Nb} {keep : List Bool} {p : Int × List UInt8} (h : p ∈ chosen ps keep) : p ∈ ps := by
  unfold chosen at h
  obtain ⟨q, hq, rfl⟩ := List.mem_map.mp h
  exact (List.of_mem_zip (List.mem_filter.mp hq).1).1
theorem chosen_one (x : Int × List UInt8) (keep : List Bool) : chosen [x] keep = if keep.getD 0 false = true then [x] else [] := by
  unfold chosen
  cases keep with
  | nil => rfl
  | cons b r => cases b <;> rfl
/-- a write of what is written again -/
theorem apply_over {L : List (List UInt8)} {l ps : Nb} {n : Int} (r : Rise n l) (hn : n ≤ L.length) (h : ∀ p ∈ ps, p ∈ l) : applyTo (applyTo L ps) l = applyTo L l := by
  apply List.ext_getElem?
  intro i
  have pos : ∀ p ∈ l, 0 ≤ p.1 := fun p hp => by have := r.rng p hp; omega
  by_cases hm : ∃ b, ((i : Int), b) ∈ l
  · obtain ⟨b, hb⟩ := hm
    have hu : ∀ c, ((i : Int), c) ∈ l → c = b := fun c hc => r.uniq hb hc
    have hi : i < L.length := by have := r.rng _ hb; simp only at this; omega
    rw [applyTo_of (by rw [applyTo_length]; exact hi) hb hu pos, applyTo_of hi hb hu pos]
  · have no : ∀ p ∈ l, p.1 ≠ i ∧ 0 ≤ p.1 := fun p hp => ⟨fun e => hm ⟨p.2, by rw [← e]; exact hp⟩, pos p hp⟩
    rw [applyTo_get no, applyTo_get (fun p hp => no p (h p hp)), applyTo_get no]
/-- the log holds l -/
structure Log (L : List (List UInt8)) (l : Nb) : Prop where
  head : L[1]? = some (hdrOf l)
  data : ∀ k (h : k < l.length), L[2 + k]? = some l[k].2
theorem Log.keep {L L' : List (List UInt8)} {l : Nb} (g : Log L l) (hl : l.length ≤ 96) (h : ∀ i : Nat, i < 98 → L'[i]? = L[i]?) : Log L' l :=
  ⟨(h 1 (by omega)).trans g.head, fun k hk => (h _ (by omega)).trans (g.data k hk)⟩
/-- such a log is read -/
theorem Log.held {L : List (List UInt8)} {l : Nb} (g : Log L l) (hN : 98 ≤ L.length) (hN2 : L.length ≤ 16384) (r : Rise L.length l) (hne : l ≠ []) (hl : l.length ≤ 96) : heldM (fresh L) = (l, 0) := by
  have e1 : readAt (fresh L) 1 = hdrOf l := by
    show L.getD 1 [] = _
    rw [List.getD_eq_getElem?_getD, g.head]; rfl
  have e2 : ∀ k (h : k < l.length), readAt (fresh L) (2 + k) = l[k].2 := fun k h => by
    show L.getD (2 + k) [] = _
    rw [List.getD_eq_getElem?_getD, g.data k h]; rfl
  have ln : 0 < l.length := by
    cases l with
    | nil => exact absurd rfl hne
    | cons _ _ => rw [List.length_cons]; omega
  have hmay : Hd.mayM (l.map (·.1)) L.length = true := by
    unfold Hd.mayM
    rw [Tm.okGo_of _ 97 r.up fun x hx => by
      obtain ⟨p, hp, rfl⟩ := List.mem_map.mp hx
      have := r.rng p hp
      omega, decide_eq_true (by rw [List.length_map]; omega), decide_eq_true (by rw [List.length_map]; omega)]; rfl
  have hb : ∀ x ∈ l.map (·.1), x < 4294967296 := fun x hx => by
    obtain ⟨p, hp, rfl⟩ := List.mem_map.mp hx
    have := r.rng p hp
    omega
  have eN : heldN (fresh L) = (l.map (·.1), 0) := by
    unfold heldN
    rw [e1]
    exact Hd.laid_nums hmay hb
  have eL : heldL (fresh L) (l.map (·.1)).length = l := by
    unfold heldL
    rw [eN]
    apply List.ext_getElem
    · rw [List.length_map, List.length_range, List.length_map]
    · intro k h1 h2
      rw [List.getElem_map, List.getElem_range, e2 k h2, List.getD_eq_getElem?_getD, List.getElem?_map, List.getElem?_eq_getElem h2]; rfl
  have hs := Hd.sum_range (Hd.laidM (l.map (·.1)) 0) (l.map (·.2))
  have hgood : Hd.goodM (hdrOf l) L.length (l.map (·.2)) = true := by
    unfold hdrOf
    rw [Hd.laid_good hmay hb (by have := hs.1; have := hs.2; omega)]
    have hbl : Hd.blM (l.map (·.2)) (l.map (·.1)).length = true := by
      unfold Hd.blM
      rw [List.length_map, List.length_map, beq_self_eq_true, Bool.and_true]
      exact List.all_eq_true.mpr fun d hd => by
        obtain ⟨p, h1, rfl⟩ := List.mem_map.mp hd
        exact beq_iff_eq.mpr (r.len p h1)
    rw [hbl, Int.toNat_of_nonneg hs.1, beq_self_eq_true]; rfl
  have hg2 : Hd.goodM (readAt (fresh L) 1) (fresh L).lasts.length (l.map (·.2)) = true := by rw [e1]; exact hgood
  unfold heldM
  rw [show (fresh L).down = false from rfl, if_neg (by simp), if_neg (by show ¬ ((L.length : Int) < 98); omega), eN, if_neg (fun y => y rfl), eL, if_pos (.inr hg2)]
/-- an image that stands for w: its log is empty, or full of what is yet to come -/
inductive Hol (N : Nat) (L w : List (List UInt8)) : Prop where
  | emp : L[1]? = some (Hd.zeros 512) → Al N L w → Hol N L w
  | ful (l : Nb) : Log L l → Rise N l → l ≠ [] → l.length ≤ 96 → (∀ x ∈ L, x.length = 512) → L.length = N → Al N (applyTo (applyTo L l) [(1, Hd.zeros 512)]) w → Hol N L w
end Go.Proofs.YtpleolmalbdpnaaDoor.Wc
/-
  A COMMIT THAT IS CUT, plainly: what lasts stands for what was before or for what comes behind.
-/
namespace Go.Proofs.YtpleolmalbdpnaaDoor.Wc
open Go Go.Proofs Go.Proofs.YtpleolmalbdpnaaDoor.Wx Go.Proofs.YtpleolmalbdpnaaDoor.Hp Go.Proofs.YtpleolmalbdpnaaDoor.W Go.Proofs.YtpleolmalbdpnaaDoor.Ad

theorem apply_at : ∀ (ps : Nb) {A B : List (List UInt8)} {i : Nat}, A.length = B.length → A[i]? = B[i]? → (applyTo A ps)[i]? = (applyTo B ps)[i]?
  | [], _, _, _, _, h => h
  | p :: r, A, B, i, hl, h => by
    show (applyTo (A.set p.1.toNat p.2) r)[i]? = (applyTo (B.set p.1.toNat p.2) r)[i]?
    refine apply_at r (by rw [List.length_set, List.length_set, hl]) ?_
    rw [List.getElem?_set, List.getElem?_set, hl, h]
theorem one_get {A : List (List UInt8)} {x : List UInt8} {i : Nat} (h : i ≠ 1) : (applyTo A [(1, x)])[i]? = A[i]? := applyTo_get fun p hp => by rw [List.mem_singleton.mp hp]; simp only; omega
theorem one_at {A : List (List UInt8)} {x : List UInt8} (h : 1 < A.length) : (applyTo A [(1, x)])[1]? = some x := by
  show (A.set ((1 : Int)).toNat x)[1]? = _
  exact List.getElem?_set_self h
theorem low_get {A : List (List UInt8)} {l ps : Nb} {n : Int} (r : Rise n l) (h : ∀ p ∈ ps, p ∈ l) {i : Nat} (hi : i < 98) : (applyTo A ps)[i]? = A[i]? := applyTo_get fun p hp => by have := r.rng p (h p hp); omega
theorem log_rng {l : Nb} (hl : l.length ≤ 96) : ∀ p ∈ logL l, 2 ≤ p.1 ∧ p.1 < 98 := fun p hp => by
  obtain ⟨j, hj, rfl⟩ := List.getElem_of_mem hp
  rw [logL_get]
  rw [logL_length] at hj
  simp only; omega
theorem log_get {A : List (List UInt8)} {l ps : Nb} (hl : l.length ≤ 96) (h : ∀ p ∈ ps, p ∈ logL l) {i : Nat} (hi : i < 2 ∨ 98 ≤ i) : (applyTo A ps)[i]? = A[i]? := applyTo_get fun p hp => by have := log_rng hl p (h p hp); omega
theorem log_len {l : Nb} (h : ∀ p ∈ l, p.2.length = 512) : ∀ p ∈ logL l, p.2.length = 512 := fun p hp => by
  obtain ⟨j, hj, rfl⟩ := List.getElem_of_mem hp
  rw [logL_get]
  have hj' : j < l.length := by rw [logL_length] at hj; exact hj
  exact h (l[j]'hj') (List.getElem_mem hj')
theorem log_data {A : List (List UInt8)} {l : Nb} (hl : l.length ≤ 96) (hA : 98 ≤ A.length) {k : Nat} (h : k < l.length) : (applyTo A (logL l))[2 + k]? = some l[k].2 := by
  have hk : k < (logL l).length := by rw [logL_length]; exact h
  have hm : (((2 + k : Nat) : Int), l[k].2) ∈ logL l := by
    have := List.getElem_mem hk
    rw [logL_get] at this
    rw [show ((2 + k : Nat) : Int) = 2 + (k : Int) by omega]; exact this
  refine applyTo_of (by omega) hm (fun c hc => ?_) fun p hp => by have := log_rng hl p hp; omega
  obtain ⟨j, hj, ej⟩ := List.getElem_of_mem hc
  rw [logL_get] at ej
  have e1 := congrArg Prod.fst ej
  have e2 := congrArg Prod.snd ej
  have e1 : 2 + (j : Int) = ((2 + k : Nat) : Int) := e1
  have : j = k := by omega
  subst this
  exact e2.symm
theorem Al.refl {N : Nat} {a : List (List UInt8)} (h : a.length = N) (h5 : ∀ x ∈ a, x.length = 512) : Al N a a := ⟨h, h, h5, h5, fun _ _ => rfl⟩
theorem one_len {A : List (List UInt8)} {x : List UInt8} (h : ∀ y ∈ A, y.length = 512) (hx : x.length = 512) : ∀ y ∈ applyTo A [(1, x)], y.length = 512 := apply_len _ _ h fun p hp => by rw [List.mem_singleton.mp hp]; exact hx
/-- a disk of which the log is empty, that takes a commit -/
structure Rdy (N : Nat) (S : RD) (l : Nb) : Prop where
  down : S.down = false
  pend : S.pend = []
  len : S.lasts.length = N
  n : 98 ≤ N ∧ N ≤ 16384
  log : S.lasts[1]? = some (Hd.zeros 512)
  b : ∀ x ∈ S.lasts, x.length = 512
  r : Rise N l
  ne : l ≠ []
  max : l.length ≤ 96
theorem Rdy.wal {N : Nat} {S : RD} {l : Nb} (a : Rdy N S l) : wal S l = runS (commitS l (hdrOf l)) S := by
  have hmay : mayW l S.lasts.length = true := by
    unfold mayW
    rw [a.len, Tm.okGo_of _ 97 a.r.up fun x hx => by
      obtain ⟨p, hp, rfl⟩ := List.mem_map.mp hx
      have := a.r.rng p hp
      omega, decide_eq_true (by have := a.max; omega)]; rfl
  have hall : (l.map (·.2)).all (fun d => d.length == 512) = true := List.all_eq_true.mpr fun d hd => by
    obtain ⟨p, h1, rfl⟩ := List.mem_map.mp hd
    exact beq_iff_eq.mpr (a.r.len p h1)
  unfold Wc.wal
  rw [if_neg a.ne, hmay, if_neg (by simp), hall, if_neg (by simp), a.down, if_neg (by simp)]
theorem commit_form (l : Nb) (hdr : List UInt8) : commitS l hdr = ws (logL l) ++ Stp.f :: (ws [(1, hdr)] ++ Stp.f :: (ws l ++ Stp.f :: (ws [(1, Hd.zeros 512)] ++ Stp.f :: []))) := by
  unfold commitS homeS
  simp only [List.append_assoc, List.cons_append, List.nil_append]; rfl
theorem home_form (l : Nb) : homeS l = ws l ++ Stp.f :: (ws [(1, Hd.zeros 512)] ++ Stp.f :: []) := rfl
theorem home_valid {N : Nat} {l : Nb} (hN : 98 ≤ N) (r : Rise N l) : Valid N (homeS l) := by
  intro s hs
  unfold homeS at hs
  rcases List.mem_append.mp hs with hs | hs
  · obtain ⟨p, hp, rfl⟩ := List.mem_map.mp hs
    have := r.rng p hp
    exact ⟨by omega, this.2, r.len p hp⟩
  · rcases List.mem_cons.mp hs with rfl | hs
    · trivial
    · rcases List.mem_cons.mp hs with rfl | hs
      · exact ⟨by omega, by omega, Hd.zeros_length 512⟩
      · rw [List.mem_singleton.mp hs]; trivial
theorem commit_valid {N : Nat} {l : Nb} {hdr : List UInt8} (hN : 98 ≤ N) (r : Rise N l) (hl : l.length ≤ 96) (hh : hdr.length = 512) : Valid N (commitS l hdr) := by
  intro s hs
  unfold commitS at hs
  rcases List.mem_append.mp hs with hs | hs
  · rcases List.mem_append.mp hs with hs | hs
    · obtain ⟨p, hp, rfl⟩ := List.mem_map.mp hs
      have := log_rng hl p hp
      exact ⟨by omega, by omega, log_len r.len p hp⟩
    · rcases List.mem_cons.mp hs with rfl | hs
      · trivial
      · rcases List.mem_cons.mp hs with rfl | hs
        · exact ⟨by omega, by omega, hh⟩
        · rw [List.mem_singleton.mp hs]; trivial
  · exact home_valid hN r s hs
theorem home_len (l : Nb) : (homeS l).length = l.length + 3 := by unfold homeS ws; rw [List.length_append, List.length_map]; rfl
theorem commit_len (l : Nb) (hdr : List UInt8) : (commitS l hdr).length = 2 * l.length + 6 := by
  unfold commitS
  rw [List.length_append, List.length_append, home_len]
  unfold ws
  rw [List.length_map, logL_length]
  show l.length + 3 + (l.length + 3) = _
  omega
/-- the stations of a commit -/
structure Stn (N : Nat) (L : List (List UInt8)) (l : Nb) : Prop where
  l1 : Al N (applyTo L (logL l)) L ∧ (applyTo L (logL l))[1]? = some (Hd.zeros 512)
  part : ∀ ps : Nb, (∀ p ∈ ps, p ∈ logL l) → Al N (applyTo L ps) L ∧ (applyTo L ps)[1]? = some (Hd.zeros 512)
  g2 : Log (applyTo (applyTo L (logL l)) [(1, hdrOf l)]) l
  b2 : ∀ x ∈ applyTo (applyTo L (logL l)) [(1, hdrOf l)], x.length = 512
  n2 : (applyTo (applyTo L (logL l)) [(1, hdrOf l)]).length = N
  fin : Al N (applyTo (applyTo (applyTo (applyTo L (logL l)) [(1, hdrOf l)]) l) [(1, Hd.zeros 512)]) (applyTo L l)
  zero : (applyTo (applyTo (applyTo (applyTo L (logL l)) [(1, hdrOf l)]) l) [(1, Hd.zeros 512)])[1]? = some (Hd.zeros 512)
theorem hdr_len {l : Nb} (hl : l.length ≤ 96) : (hdrOf l).length = 512 := Hd.laid_length _ _ (by rw [List.length_map]; omega)
theorem stations {N : Nat} {L : List (List UInt8)} {l : Nb} (hn : 98 ≤ N) (hL : L.length = N) (hz : L[1]? = some (Hd.zeros 512)) (h5 : ∀ x ∈ L, x.length = 512) (r : Rise N l) (hl : l.length ≤ 96) : Stn N L l := by
  have hh := hdr_len hl
  have part : ∀ ps : Nb, (∀ p ∈ ps, p ∈ logL l) → Al N (applyTo L ps) L ∧ (applyTo L ps)[1]? = some (Hd.zeros 512) := fun ps h =>
    ⟨⟨by rw [applyTo_length, hL], hL, apply_len _ _ h5 fun p hp => log_len r.len p (h p hp), h5, fun i hi => log_get hl h hi⟩, by rw [log_get hl h (.inl (by omega))]; exact hz⟩
  have n1 : (applyTo L (logL l)).length = N := by rw [applyTo_length, hL]
  have b1 : ∀ x ∈ applyTo L (logL l), x.length = 512 := apply_len _ _ h5 (log_len r.len)
  have n2 : (applyTo (applyTo L (logL l)) [(1, hdrOf l)]).length = N := by rw [applyTo_length, n1]
  have b2 := one_len b1 hh
  have b3 : ∀ x ∈ applyTo (applyTo (applyTo L (logL l)) [(1, hdrOf l)]) l, x.length = 512 := apply_len _ _ b2 r.len
  have z4 : (applyTo (applyTo (applyTo (applyTo L (logL l)) [(1, hdrOf l)]) l) [(1, Hd.zeros 512)])[1]? = some (Hd.zeros 512) := one_at (by rw [applyTo_length, n2]; omega)
  refine ⟨part _ fun _ h => h, part, ⟨one_at (by omega), fun k hk => by rw [one_get (by omega)]; exact log_data hl (by omega) hk⟩, b2, n2, ⟨by rw [applyTo_length, applyTo_length, n2], by rw [applyTo_length, hL], one_len b3 (Hd.zeros_length 512), apply_len _ _ h5 r.len, fun i hi => ?_⟩, z4⟩
  by_cases e : i = 1
  · subst e
    rw [z4, low_get r (fun _ h => h) (by omega)]; exact hz.symm
  · rw [one_get e]
    refine apply_at l (by rw [n2, hL]) ?_
    rw [one_get e, log_get hl (fun _ h => h) hi]
/-- what lasts of a commit that is cut, or not -/
theorem commit_cut {N : Nat} {S : RD} {l : Nb} {c : Nat} {keep : List Bool} (a : Rdy N S l) (hc : S.left = c) (h0 : 0 < c) (hk : S.keep = keep) :
    (2 * l.length + 6 < c → ∃ S', wal S l = (S', 0) ∧ S'.down = false ∧ Hol N S'.lasts (applyTo S.lasts l)) ∧
    (c ≤ 2 * l.length + 6 → ∃ S', wal S l = (S', 30) ∧ S'.down = true ∧ Hol N S'.lasts (if c < l.length + 2 ∨ (c < l.length + 4 ∧ keep.getD 0 false = false) then S.lasts else applyTo S.lasts l)) := by
  have st := stations a.n.1 a.len a.log a.b a.r a.max
  have hn := a.n
  obtain ⟨A, B⟩ := run_armed keep (commitS l (hdrOf l)) S c a.down hc hk h0 (by rw [a.len]; exact commit_valid a.n.1 a.r a.max (hdr_len a.max))
  rw [commit_len, a.pend] at A B
  rw [a.wal]
  have take1 : ∀ (x : Int × List UInt8) (k : Nat), 0 < k → [x].take k = [x] := fun x k h => List.take_of_length_le (by show 1 ≤ k; omega)
  refine ⟨fun h => ?_, fun h => ?_⟩
  · obtain ⟨S', e, d, el⟩ := A h
    refine ⟨S', e, d, ?_⟩
    rw [commit_form, sem_ws, sem_ws, sem_ws, sem_ws] at el
    simp only [List.nil_append] at el
    have el : S'.lasts = applyTo (applyTo (applyTo (applyTo S.lasts (logL l)) [(1, hdrOf l)]) l) [(1, Hd.zeros 512)] := el
    rw [el]
    exact .emp st.zero st.fin
  · obtain ⟨S', e, d, _, el⟩ := B h
    refine ⟨S', e, d, ?_⟩
    rw [commit_form, cut_ws keep _ _ _ _ _ h0, logL_length, List.nil_append] at el
    by_cases c1 : c ≤ l.length + 1
    · rw [if_pos c1] at el
      rw [if_pos (.inl (by omega)), el]
      obtain ⟨x, y⟩ := st.part (chosen ((logL l).take c) keep) fun p hp => List.mem_of_mem_take (chosen_mem hp)
      exact .emp y x
    rw [if_neg c1, cut_ws keep _ _ _ _ _ (by omega)] at el
    simp only [List.nil_append, List.length_singleton] at el
    by_cases c2 : c - l.length - 1 ≤ 1 + 1
    · rw [if_pos c2, take1 _ _ (by omega), chosen_one] at el
      cases hb : keep.getD 0 false with
      | true =>
        rw [hb, if_pos rfl] at el
        rw [if_neg (fun y => y.elim (fun z => by omega) fun z => absurd z.2 (by simp)), el]
        exact .ful l st.g2 a.r a.ne a.max st.b2 st.n2 st.fin
      | false =>
        rw [hb, if_neg (by simp)] at el
        rw [if_pos (.inr ⟨by omega, rfl⟩), el]
        exact .emp st.l1.2 st.l1.1
    rw [if_neg c2, cut_ws keep _ _ _ _ _ (by omega), List.nil_append] at el
    rw [if_neg (fun y => y.elim (fun z => by omega) fun z => by omega)]
    by_cases c3 : c - l.length - 1 - 1 - 1 ≤ l.length + 1
    · rw [if_pos c3] at el
      have hp : ∀ p ∈ chosen (l.take (c - l.length - 1 - 1 - 1)) keep, p ∈ l := fun p hp => List.mem_of_mem_take (chosen_mem hp)
      rw [el]
      refine .ful l (st.g2.keep a.max fun i hi => low_get a.r hp hi) a.r a.ne a.max (apply_len _ _ st.b2 fun p q => a.r.len p (hp p q)) (by rw [applyTo_length, st.n2]) ?_
      rw [apply_over a.r (by rw [st.n2]; exact Int.le_refl _) hp]
      exact st.fin
    rw [if_neg c3, cut_ws keep _ _ _ _ _ (by omega)] at el
    simp only [List.nil_append, List.length_singleton] at el
    rw [if_pos (by omega), take1 _ _ (by omega), chosen_one] at el
    cases hb : keep.getD 0 false with
    | true =>
      rw [hb, if_pos rfl] at el
      rw [el]
      exact .emp st.zero st.fin
    | false =>
      rw [hb, if_neg (by simp)] at el
      have el : S'.lasts = applyTo (applyTo (applyTo S.lasts (logL l)) [(1, hdrOf l)]) l := el
      rw [el]
      refine .ful l (st.g2.keep a.max fun i hi => low_get a.r (fun _ h => h) hi) a.r a.ne a.max (apply_len _ _ st.b2 a.r.len) (by show (applyTo _ l).length = N; rw [applyTo_length, st.n2]) ?_
      show Al N (applyTo (applyTo (applyTo (applyTo (applyTo S.lasts (logL l)) [(1, hdrOf l)]) l) l) _) _
      rw [apply_over a.r (by rw [st.n2]; exact Int.le_refl _) fun _ h => h]
      exact st.fin
/-! recoveries -/
theorem held_congr {S : RD} {L : List (List UInt8)} (h1 : S.down = false) (h2 : S.lasts = L) (h3 : S.pend = []) : heldM S = heldM (fresh L) := by
  have er : ∀ i, readAt S i = readAt (fresh L) i := fun i => by rw [read_quiet h3, h2]; rfl
  have eN : heldN S = heldN (fresh L) := by unfold heldN; rw [er, h2]; rfl
  have eL : ∀ n, heldL S n = heldL (fresh L) n := fun n => by
    unfold heldL
    rw [eN]
    exact List.map_congr_left fun k _ => by rw [er]
  unfold heldM
  rw [h1, eN, eL, er, h2]; rfl
theorem emp_held {N : Nat} {L : List (List UInt8)} (hN : 98 ≤ N) (hL : L.length = N) (hz : L[1]? = some (Hd.zeros 512)) : heldM (fresh L) = ([], 0) :=
  Clean.held ⟨⟨rfl, rfl⟩, rfl, by show 98 ≤ L.length; omega, hz⟩
theorem Hol.len {N : Nat} {L w : List (List UInt8)} (h : Hol N L w) : L.length = N ∧ ∀ x ∈ L, x.length = 512 := by
  cases h with
  | emp _ a => exact ⟨a.1, a.2.2.1⟩
  | ful l _ _ _ _ h5 hn _ => exact ⟨hn, h5⟩
/-- what Behind tells -/
theorem Hol.beh {N : Nat} {S : RD} {L w : List (List UInt8)} (hn : 98 ≤ N ∧ N ≤ 16384) (h : Hol N L w) (h1 : S.down = false) (h2 : S.lasts = L) (h3 : S.pend = []) : ∃ b, behM S = (b.flatten, 0) ∧ Al N b w := by
  have hc := held_congr h1 h2 h3
  cases h with
  | emp hz a =>
    have e := emp_held hn.1 a.1 hz
    rw [e] at hc
    refine ⟨L, ?_, a⟩
    unfold behM
    rw [hc, if_neg (fun y => y rfl), beh_nil h3 hc, h2]
  | ful l g r hne hl h5 hL a =>
    have e := g.held (by omega) (by omega) (by rw [hL]; exact r) hne hl
    rw [e] at hc
    refine ⟨_, ?_, a⟩
    unfold behM
    rw [hc, if_neg (fun y => y rfl)]
    unfold behL
    rw [seen_lasts h3, h2]
/-- a recovery, cut or not: what lasts stands for the same -/
theorem recover_cut {N : Nat} {S : RD} {L w : List (List UInt8)} {c : Nat} (hn : 98 ≤ N ∧ N ≤ 16384) (h : Hol N L w) (h1 : S.down = false) (h2 : S.lasts = L) (h3 : S.pend = []) (hc : S.left = c) (hw : 0 ≤ S.writes ∧ S.writes ≤ 1000000) (hf : 0 ≤ S.flushes ∧ S.flushes ≤ 1000000) :
    ∃ S' m e, recM S = (S', m, e) ∧ ((e = 30 ∧ S'.down = true) ∨ (e = 0 ∧ S'.down = false)) ∧ Hol N S'.lasts w ∧ (c = 0 → e = 0 ∧ Clean S' ∧ Al N S'.lasts w) := by
  have he := held_congr h1 h2 h3
  have hlen := h.len
  cases h with
  | emp hz a =>
    rw [emp_held hn.1 a.1 hz] at he
    have er : recM S = (S, 0, 0) := by unfold recM; rw [he, if_neg (fun y => y rfl), if_pos rfl]
    refine ⟨S, 0, 0, er, .inr ⟨rfl, h1⟩, ?_, fun h0 => ⟨rfl, ⟨⟨h1, by omega⟩, h3, by rw [h2, hlen.1]; exact hn.1, by rw [h2]; exact hz⟩, by rw [h2]; exact a⟩⟩
    rw [h2]; exact .emp hz a
  | ful l g r hne hl h5 hL a =>
    have e := g.held (by omega) (by omega) (by rw [hL]; exact r) hne hl
    rw [e] at he
    have zero : (applyTo (applyTo L l) [(1, Hd.zeros 512)])[1]? = some (Hd.zeros 512) := one_at (by rw [applyTo_length, hL]; omega)
    have form : ∀ {S' : RD} {e : Int}, runS (homeS l) S = (S', e) → recM S = (S', if e ≠ 0 then 0 else ((l.length : Nat) : Int), e) := fun {S' e} er => by
      unfold recM
      rw [he, if_neg (fun y => y rfl), if_neg hne, er]
      by_cases e0 : e = 0
      · subst e0; rfl
      · show (if e ≠ 0 then (S', (0 : Int), e) else _) = _
        rw [if_pos e0, if_pos e0]
    by_cases h0 : c = 0
    · obtain ⟨S2, er, q2, el, ep, _, _, _, _⟩ := home_run (S := S) (l := l) ⟨h1, by rw [hc, h0]; rfl⟩ h3 hw hf (by rw [h2, hL]; exact hn.1) (fun p hp => by
        have := r.rng p hp
        rw [h2, hL]
        exact ⟨by omega, this.2, r.len p hp⟩) hl
      rw [h2] at el
      refine ⟨S2, _, 0, form er, .inr ⟨rfl, q2.down⟩, ?_, fun _ => ⟨rfl, ⟨q2, ep, by rw [el, applyTo_length, applyTo_length, hL]; exact hn.1, by rw [el]; exact zero⟩, by rw [el]; exact a⟩⟩
      rw [el]; exact .emp zero a
    · obtain ⟨A, B⟩ := run_armed S.keep (homeS l) S c h1 hc rfl (by omega) (by rw [h2, hL]; exact home_valid hn.1 r)
      rw [home_len, h2, h3] at A B
      by_cases hlt : l.length + 3 < c
      · obtain ⟨S', er, d, el⟩ := A hlt
        rw [home_form, sem_ws, sem_ws] at el
        simp only [List.nil_append] at el
        have el : S'.lasts = applyTo (applyTo L l) [(1, Hd.zeros 512)] := el
        refine ⟨S', _, 0, form er, .inr ⟨rfl, d⟩, ?_, fun y => absurd y h0⟩
        rw [el]; exact .emp zero a
      · obtain ⟨S', er, d, _, el⟩ := B (by omega)
        refine ⟨S', _, 30, form er, .inl ⟨rfl, d⟩, ?_, fun y => absurd y h0⟩
        rw [home_form, cut_ws _ _ _ _ _ _ (by omega), List.nil_append] at el
        by_cases c1 : c ≤ l.length + 1
        · rw [if_pos c1] at el
          have hp : ∀ p ∈ chosen (l.take c) S.keep, p ∈ l := fun p hp => List.mem_of_mem_take (chosen_mem hp)
          rw [el]
          refine .ful l (g.keep hl fun i hi => low_get r hp hi) r hne hl (apply_len _ _ h5 fun p q => r.len p (hp p q)) (by rw [applyTo_length, hL]) ?_
          rw [apply_over r (by rw [hL]; exact Int.le_refl _) hp]
          exact a
        · rw [if_neg c1, cut_ws _ _ _ _ _ _ (by omega)] at el
          simp only [List.nil_append, List.length_singleton] at el
          rw [if_pos (by omega), List.take_of_length_le (by show 1 ≤ _; omega), chosen_one] at el
          cases hb : S.keep.getD 0 false with
          | true =>
            rw [hb, if_pos rfl] at el
            rw [el]; exact .emp zero a
          | false =>
            rw [hb, if_neg (by simp)] at el
            have el : S'.lasts = applyTo L l := el
            rw [el]
            refine .ful l (g.keep hl fun i hi => low_get r (fun _ h => h) hi) r hne hl (apply_len _ _ h5 r.len) (by show (applyTo L l).length = N; rw [applyTo_length, hL]) ?_
            show Al N (applyTo (applyTo (applyTo L l) l) _) _
            rw [apply_over r (by rw [hL]; exact Int.le_refl _) fun _ h => h]
            exact a
/-! commits and recoveries in general -/
theorem DiskF.arm {h : Heap} {D : Nat → Prop} {d : Option Addr} {S : RD} {n : Int} {ka : Option Addr} {kl kc : Nat} {keep : List Bool} {K : Value → Heap → Prop} (A : DiskF h D d S) (hd : S.down = false) (hn : n ≤ 9223372036854775807) (hkl : keep.length = kl) (hk : SlCells h ka (keep.map .bool)) (hl : kl ≤ 140737488355328)
    (hK : ∀ h' D', Fr D h h' → Gw h D h' D' → DiskF h' D' d { S with left := (n.toNat : Int), keep := keep } → K (.int .i64 0) h') : C.adisk_Disk_Arm d [.int .i64 n, .slice ka kl kc] h K := by
  obtain ⟨col, A, hz, hD⟩ := A
  refine Arm_spec A hn hkl hk hl fun h' col' f g A' => ?_
  have e : S.arm n keep = ({ S with left := (n.toNat : Int), keep := keep }, 0) := by
    unfold RD.arm
    rw [if_neg (show ¬ S.down = true by rw [hd]; simp), show (if (0 : Int) > n then 0 else n) = (n.toNat : Int) by split <;> omega]
  rw [e] at A' ⊢
  obtain ⟨D', g', a', _⟩ := DiskF.gw hD g f.size A'
  exact hK h' D' (f.mono fun b _ x => (hD b).mpr x) g' a'
theorem Rdy.may {N : Nat} {S : RD} {l : Nb} (a : Rdy N S l) : mayW l S.lasts.length = true := by
  unfold mayW
  rw [a.len, Tm.okGo_of _ 97 a.r.up fun x hx => by
    obtain ⟨p, hp, rfl⟩ := List.mem_map.mp hx
    have := a.r.rng p hp
    omega, decide_eq_true (by have := a.max; omega)]; rfl
/-- a commit, cut or not -/
theorem commit_any {N : Nat} {S : RD} {l : Nb} {c : Nat} {keep : List Bool} (hd : S.down = false) (hp : S.pend = []) (hn : 98 ≤ N ∧ N ≤ 16384) (hL : S.lasts.length = N) (hz : S.lasts[1]? = some (Hd.zeros 512)) (h5 : ∀ x ∈ S.lasts, x.length = 512) (r : Rise N l) (hl : l.length ≤ 96) (hc : S.left = c) (hk : S.keep = keep)
    (hw : 0 ≤ S.writes ∧ S.writes ≤ 10000000) (hf : 0 ≤ S.flushes ∧ S.flushes ≤ 10000000) :
    ((0 < l.length ∧ 1 ≤ c ∧ c ≤ 2 * l.length + 6) ∧ ∃ S', wal S l = (S', 30) ∧ S'.down = true ∧ Hol N S'.lasts (if c < l.length + 2 ∨ (c < l.length + 4 ∧ keep.getD 0 false = false) then S.lasts else applyTo S.lasts l)) ∨
    (¬ (0 < l.length ∧ 1 ≤ c ∧ c ≤ 2 * l.length + 6) ∧ ∃ S', wal S l = (S', 0) ∧ S'.down = false ∧ Hol N S'.lasts (applyTo S.lasts l)) := by
  by_cases e : l = []
  · subst e
    refine .inr ⟨fun x => absurd x.1 (by decide), S, by unfold wal; rw [if_pos rfl], hd, .emp hz (Al.refl hL h5)⟩
  have ln : 0 < l.length := List.length_pos_iff.mpr e
  have a : Rdy N S l := ⟨hd, hp, hL, hn, hz, h5, r, e, hl⟩
  by_cases h0 : c = 0
  · obtain ⟨S', ew, d, c', _⟩ := wal_clean (S := S) (l := l) ⟨⟨hd, by rw [hc, h0]; rfl⟩, hp, by rw [hL]; exact hn.1, hz⟩ hw hf e a.may r.len
    refine .inr ⟨fun x => by omega, S', ew, d.q.down, ?_⟩
    have st := stations hn.1 hL hz h5 r hl
    rw [d.lasts, hp, List.nil_append]
    exact .emp st.zero st.fin
  · obtain ⟨A, B⟩ := commit_cut a hc (by omega) hk
    by_cases hlt : 2 * l.length + 6 < c
    · exact .inr ⟨fun x => by omega, A hlt⟩
    · exact .inl ⟨⟨ln, by omega, by omega⟩, B (by omega)⟩
/-- the tape of a recovery that is not cut -/
theorem rec_tape {N : Nat} {S : RD} {L w : List (List UInt8)} (hn : 98 ≤ N ∧ N ≤ 16384) (h : Hol N L w) (q : Quiet S) (h2 : S.lasts = L) (h3 : S.pend = []) (hw : 0 ≤ S.writes ∧ S.writes ≤ 1000000) (hf : 0 ≤ S.flushes ∧ S.flushes ≤ 1000000) : (recM S).1.tape.length ≤ S.tape.length + 100 := by
  have he := held_congr q.down h2 h3
  cases h with
  | emp hz a =>
    rw [emp_held hn.1 a.1 hz] at he
    have er : recM S = (S, 0, 0) := by unfold recM; rw [he, if_neg (fun y => y rfl), if_pos rfl]
    rw [er]; exact Nat.le_add_right _ _
  | ful l g r hne hl h5 hL a =>
    have e := g.held (by omega) (by omega) (by rw [hL]; exact r) hne hl
    rw [e] at he
    obtain ⟨S2, er, q2, el, ep, _, _, et, _⟩ := home_run (S := S) (l := l) q h3 hw hf (by rw [h2, hL]; exact hn.1) (fun p hp => by
        have := r.rng p hp
        rw [h2, hL]
        exact ⟨by omega, this.2, r.len p hp⟩) hl
    have form : (recM S).1 = S2 := by
      unfold recM
      rw [he, if_neg (fun y => y rfl), if_neg hne, er]; rfl
    rw [form, et, List.length_append, List.length_map, home_len]; omega
end Go.Proofs.YtpleolmalbdpnaaDoor.Wc
