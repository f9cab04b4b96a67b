/-
  A COMMIT THAT IS CUT, plainly.
-/
import Derived.Test.YtpleolmalbdpnaaDoorWhP
import Derived.Test.YtpleolmalbdpnaaDoorTcP
namespace Go.Proofs.YtpleolmalbdpnaaDoor.Wc
open Go Go.Proofs Go.Proofs.YtpleolmalbdpnaaDoor.Wx Go.Proofs.YtpleolmalbdpnaaDoor.Hp Go.Proofs.YtpleolmalbdpnaaDoor.W Go.Proofs.YtpleolmalbdpnaaDoor.Ad

/-- numbers that rise, blocks of 512 bytes -/
structure Rise (n : Int) (l : Nb) : Prop where
  up : (l.map (·.1)).Pairwise (· < ·)
  rng : ∀ p ∈ l, 98 ≤ p.1 ∧ p.1 < n
  len : ∀ p ∈ l, p.2.length = 512
theorem Rise.uniq {n : Int} {l : Nb} (r : Rise n l) {i : Int} {b c : List UInt8} (hb : (i, b) ∈ l) (hc : (i, c) ∈ l) : c = b := by
  obtain ⟨x, hx, ex⟩ := List.getElem_of_mem hb
  obtain ⟨y, hy, ey⟩ := List.getElem_of_mem hc
  have inj : x = y := by
    have p := r.up
    rw [List.pairwise_iff_getElem] at p
    rcases Nat.lt_trichotomy x y with q | q | q
    · have := p x y (by rw [List.length_map]; exact hx) (by rw [List.length_map]; exact hy) q
      rw [List.getElem_map, List.getElem_map, ex, ey] at this
      exact absurd this (by simp)
    · exact q
    · have := p y x (by rw [List.length_map]; exact hy) (by rw [List.length_map]; exact hx) q
      rw [List.getElem_map, List.getElem_map, ex, ey] at this
      exact absurd this (by simp)
  subst inj
  exact (congrArg Prod.snd (ex.symm.trans ey)).symm
/-- the same blocks, the log's data aside -/
def Al (N : Nat) (a b : List (List UInt8)) : Prop := a.length = N ∧ b.length = N ∧ (∀ x ∈ a, x.length = 512) ∧ (∀ x ∈ b, x.length = 512) ∧ ∀ i : Nat, i < 2 ∨ 98 ≤ i → a[i]? = b[i]?
def Valid (N : Nat) (xs : List Stp) : Prop := ∀ s ∈ xs, match s with
  | .w i b => 0 ≤ i ∧ i < (N : Int) ∧ b.length = 512
  | .f => True
def semL : List Stp → List (List UInt8) → Nb → List (List UInt8)
  | [], L, _ => L
  | .w i b :: r, L, P => semL r L (P ++ [(i, b)])
  | .f :: r, L, P => semL r (applyTo L P) []
/-- what lasts where the power goes at step c -/
def cutL (keep : List Bool) : List Stp → Nat → List (List UInt8) → Nb → List (List UInt8)
  | [], _, L, P => applyTo L (chosen P keep)
  | .w i b :: r, c, L, P => if c ≤ 1 then applyTo L (chosen (P ++ [(i, b)]) keep) else cutL keep r (c - 1) L (P ++ [(i, b)])
  | .f :: r, c, L, P => if c ≤ 1 then applyTo L (chosen P keep) else cutL keep r (c - 1) (applyTo L P) []
theorem run_armed (keep : List Bool) : ∀ (xs : List Stp) (S : RD) (c : Nat), S.down = false → S.left = c → S.keep = keep → 0 < c → Valid S.lasts.length xs →
    (xs.length < c → ∃ S', runS xs S = (S', 0) ∧ S'.down = false ∧ S'.lasts = semL xs S.lasts S.pend) ∧ (c ≤ xs.length → ∃ S', runS xs S = (S', 30) ∧ S'.down = true ∧ S'.pend = [] ∧ S'.lasts = cutL keep xs c S.lasts S.pend)
  | [], S, c, hd, _, _, h0, _ => ⟨fun _ => ⟨S, rfl, hd, rfl⟩, fun h => by have h : c ≤ 0 := h; omega⟩
  | s :: r, S, c, hd, hl, hk, h0, hv => by
    have hs := hv s (List.mem_cons_self ..)
    have hr : Valid S.lasts.length r := fun x hx => hv x (List.mem_cons_of_mem _ hx)
    -- one step
    have one : ∀ (S1 : RD) (f : RD → RD), S1.left = c → S1.keep = keep → (s.on S) = S1.step f → (∀ x : Int, (f { S1 with left := x }).down = false ∧ (f { S1 with left := x }).left = x ∧ (f { S1 with left := x }).keep = keep) →
        (c = 1 → s.on S = (RD.cut { S1 with left := 0 } keep, 30)) ∧ (1 < c → s.on S = (f { S1 with left := (c : Int) - 1 }, 0)) := by
      intro S1 f e1 ek es _
      rw [es]
      unfold RD.step
      rw [e1, if_pos (by omega)]
      refine ⟨fun h => ?_, fun h => ?_⟩
      · rw [if_pos (by omega), ek, h]; rfl
      · rw [if_neg (by omega)]
    have tail : ∀ (S2 : RD), s.on S = (S2, 0) → S2.down = false → S2.left = (c : Int) - 1 → S2.keep = keep → S2.lasts.length = S.lasts.length → 1 < c →
        ((s :: r).length < c → ∃ S', runS (s :: r) S = (S', 0) ∧ S'.down = false ∧ S'.lasts = semL r S2.lasts S2.pend) ∧ (c ≤ (s :: r).length → ∃ S', runS (s :: r) S = (S', 30) ∧ S'.down = true ∧ S'.pend = [] ∧ S'.lasts = cutL keep r (c - 1) S2.lasts S2.pend) := by
      intro S2 e d2 l2 k2 n2 hc
      obtain ⟨a, b⟩ := run_armed keep r S2 (c - 1) d2 (by rw [l2]; omega) k2 (by omega) (by rw [n2]; exact hr)
      have er : runS (s :: r) S = runS r S2 := by
        show (if (s.on S).2 = 0 then runS r (s.on S).1 else s.on S) = _
        rw [e, if_pos rfl]
      rw [er]
      exact ⟨fun h => a (by rw [List.length_cons] at h; omega), fun h => b (by rw [List.length_cons] at h; omega)⟩
    have cutR : ∀ (S2 : RD), s.on S = (S2, 30) → S2.down = true → S2.pend = [] → ((s :: r).length < c → False) → ∃ S', runS (s :: r) S = (S', 30) ∧ S'.down = true ∧ S'.pend = [] ∧ S'.lasts = S2.lasts := by
      intro S2 e d2 p2 _
      refine ⟨S2, ?_, d2, p2, rfl⟩
      show (if (s.on S).2 = 0 then runS r (s.on S).1 else s.on S) = _
      rw [e]
      exact if_neg (show ¬ ((30 : Int) = 0) by decide)
    cases s with
    | w i b =>
      have hs : 0 ≤ i ∧ i < (S.lasts.length : Int) ∧ b.length = 512 := hs
      have es : (Stp.w i b).on S = (S.putW i b).step id := by
        show S.write i b = _
        unfold RD.write
        rw [hd, if_neg (by simp), if_neg (fun x => x ⟨hs.1, hs.2.1⟩), if_neg (fun x => x hs.2.2)]
      obtain ⟨o1, o2⟩ := one (S.putW i b) id hl hk es fun x => ⟨hd, rfl, hk⟩
      by_cases hc : c = 1
      · have e := o1 hc
        refine ⟨fun h => by rw [List.length_cons] at h; omega, fun _ => ?_⟩
        obtain ⟨S', x, y, z, w⟩ := cutR _ e rfl rfl (fun h => by rw [List.length_cons] at h; omega)
        refine ⟨S', x, y, z, ?_⟩
        rw [w]
        show applyTo S.lasts (chosen (S.pend ++ [(i, b)]) keep) = if c ≤ 1 then _ else _
        rw [if_pos (by omega)]
      · obtain ⟨a, b'⟩ := tail _ (o2 (by omega)) hd rfl hk rfl (by omega)
        refine ⟨a, fun h => ?_⟩
        obtain ⟨S', x, y, z, w⟩ := b' h
        refine ⟨S', x, y, z, ?_⟩
        rw [w]
        show _ = if c ≤ 1 then _ else _
        rw [if_neg (by omega)]; rfl
    | f =>
      have es : (Stp.f).on S = RD.step { S with flushes := IntKind.wrap .i64 (S.flushes + 1) } RD.flushed := by
        show S.flush = _
        unfold RD.flush
        rw [hd, if_neg (by simp)]
      obtain ⟨o1, o2⟩ := one { S with flushes := IntKind.wrap .i64 (S.flushes + 1) } RD.flushed hl hk es fun x => ⟨hd, rfl, hk⟩
      by_cases hc : c = 1
      · have e := o1 hc
        refine ⟨fun h => by rw [List.length_cons] at h; omega, fun _ => ?_⟩
        obtain ⟨S', x, y, z, w⟩ := cutR _ e rfl rfl (fun h => by rw [List.length_cons] at h; omega)
        refine ⟨S', x, y, z, ?_⟩
        rw [w]
        show applyTo S.lasts (chosen S.pend keep) = if c ≤ 1 then _ else _
        rw [if_pos (by omega)]
      · obtain ⟨a, b'⟩ := tail _ (o2 (by omega)) hd rfl hk (by show (applyTo S.lasts S.pend).length = _; exact applyTo_length _ _) (by omega)
        refine ⟨a, fun h => ?_⟩
        obtain ⟨S', x, y, z, w⟩ := b' h
        refine ⟨S', x, y, z, ?_⟩
        rw [w]
        show _ = if c ≤ 1 then _ else _
        rw [if_neg (by omega)]; rfl
theorem cut_ws (keep : List Bool) : ∀ (m : Nb) (r : List Stp) (c : Nat) (L : List (List UInt8)) (P : Nb), 0 < c →
    cutL keep (ws m ++ Stp.f :: r) c L P = if c ≤ m.length + 1 then applyTo L (chosen (P ++ m.take c) keep) else cutL keep r (c - m.length - 1) (applyTo L (P ++ m)) []
  | [], r, c, L, P, h0 => by
    show (if c ≤ 1 then applyTo L (chosen P keep) else cutL keep r (c - 1) (applyTo L P) []) = _
    rw [List.take_nil, List.append_nil]; rfl
  | p :: m, r, c, L, P, h0 => by
    show (if c ≤ 1 then applyTo L (chosen (P ++ [(p.1, p.2)]) keep) else cutL keep (ws m ++ Stp.f :: r) (c - 1) L (P ++ [(p.1, p.2)])) = _
    by_cases hc : c ≤ 1
    · have : c = 1 := by omega
      subst this
      rw [if_pos (by omega), if_pos (by rw [List.length_cons]; omega)]; rfl
    · rw [if_neg hc, cut_ws keep m r (c - 1) L _ (by omega), List.length_cons]
      obtain ⟨d, rfl⟩ : ∃ d, c = d + 2 := ⟨c - 2, by omega⟩
      have e1 : (p :: m).take (d + 2) = p :: m.take (d + 1) := rfl
      rw [e1, List.append_assoc, List.append_assoc]
      by_cases h : d + 2 ≤ m.length + 1 + 1
      · rw [if_pos (by omega), if_pos h]; rfl
      · rw [if_neg (by omega), if_neg h, show d + 2 - (m.length + 1) - 1 = d + 2 - 1 - m.length - 1 by omega]; rfl
theorem sem_ws : ∀ (m : Nb) (r : List Stp) (L : List (List UInt8)) (P : Nb), semL (ws m ++ Stp.f :: r) L P = semL r (applyTo L (P ++ m)) []
  | [], r, L, P => by show semL r (applyTo L P) [] = _; rw [List.append_nil]
  | p :: m, r, L, P => by
    show semL (ws m ++ Stp.f :: r) L (P ++ [(p.1, p.2)]) = _
    rw [sem_ws m, List.append_assoc]; rfl
theorem chosen_mem {ps : Nb} {keep : List Bool} {p : Int × List UInt8} (h : p ∈ chosen ps keep) : p ∈ ps := by
  unfold chosen at h
  obtain ⟨q, hq, rfl⟩ := List.mem_map.mp h
  exact (List.of_mem_zip (List.mem_filter.mp hq).1).1
theorem chosen_one (x : Int × List UInt8) (keep : List Bool) : chosen [x] keep = if keep.getD 0 false = true then [x] else [] := by
  unfold chosen
  cases keep with
  | nil => rfl
  | cons b r => cases b <;> rfl
/-- a write of what is written again -/
theorem apply_over {L : List (List UInt8)} {l ps : Nb} {n : Int} (r : Rise n l) (hn : n ≤ L.length) (h : ∀ p ∈ ps, p ∈ l) : applyTo (applyTo L ps) l = applyTo L l := by
  apply List.ext_getElem?
  intro i
  have pos : ∀ p ∈ l, 0 ≤ p.1 := fun p hp => by have := r.rng p hp; omega
  by_cases hm : ∃ b, ((i : Int), b) ∈ l
  · obtain ⟨b, hb⟩ := hm
    have hu : ∀ c, ((i : Int), c) ∈ l → c = b := fun c hc => r.uniq hb hc
    have hi : i < L.length := by have := r.rng _ hb; simp only at this; omega
    rw [applyTo_of (by rw [applyTo_length]; exact hi) hb hu pos, applyTo_of hi hb hu pos]
  · have no : ∀ p ∈ l, p.1 ≠ i ∧ 0 ≤ p.1 := fun p hp => ⟨fun e => hm ⟨p.2, by rw [← e]; exact hp⟩, pos p hp⟩
    rw [applyTo_get no, applyTo_get (fun p hp => no p (h p hp)), applyTo_get no]
/-- the log holds l -/
structure Log (L : List (List UInt8)) (l : Nb) : Prop where
  head : L[1]? = some (hdrOf l)
  data : ∀ k (h : k < l.length), L[2 + k]? = some l[k].2
theorem Log.keep {L L' : List (List UInt8)} {l : Nb} (g : Log L l) (hl : l.length ≤ 96) (h : ∀ i : Nat, i < 98 → L'[i]? = L[i]?) : Log L' l :=
  ⟨(h 1 (by omega)).trans g.head, fun k hk => (h _ (by omega)).trans (g.data k hk)⟩
/-- such a log is read -/
theorem Log.held {L : List (List UInt8)} {l : Nb} (g : Log L l) (hN : 98 ≤ L.length) (hN2 : L.length ≤ 16384) (r : Rise L.length l) (hne : l ≠ []) (hl : l.length ≤ 96) : heldM (fresh L) = (l, 0) := by
  have e1 : readAt (fresh L) 1 = hdrOf l := by
    show L.getD 1 [] = _
    rw [List.getD_eq_getElem?_getD, g.head]; rfl
  have e2 : ∀ k (h : k < l.length), readAt (fresh L) (2 + k) = l[k].2 := fun k h => by
    show L.getD (2 + k) [] = _
    rw [List.getD_eq_getElem?_getD, g.data k h]; rfl
  have ln : 0 < l.length := by
    cases l with
    | nil => exact absurd rfl hne
    | cons _ _ => rw [List.length_cons]; omega
  have hmay : Hd.mayM (l.map (·.1)) L.length = true := by
    unfold Hd.mayM
    rw [Tm.okGo_of _ 97 r.up fun x hx => by
      obtain ⟨p, hp, rfl⟩ := List.mem_map.mp hx
      have := r.rng p hp
      omega, decide_eq_true (by rw [List.length_map]; omega), decide_eq_true (by rw [List.length_map]; omega)]; rfl
  have hb : ∀ x ∈ l.map (·.1), x < 4294967296 := fun x hx => by
    obtain ⟨p, hp, rfl⟩ := List.mem_map.mp hx
    have := r.rng p hp
    omega
  have eN : heldN (fresh L) = (l.map (·.1), 0) := by
    unfold heldN
    rw [e1]
    exact Hd.laid_nums hmay hb
  have eL : heldL (fresh L) (l.map (·.1)).length = l := by
    unfold heldL
    rw [eN]
    apply List.ext_getElem
    · rw [List.length_map, List.length_range, List.length_map]
    · intro k h1 h2
      rw [List.getElem_map, List.getElem_range, e2 k h2, List.getD_eq_getElem?_getD, List.getElem?_map, List.getElem?_eq_getElem h2]; rfl
  have hs := Hd.sum_range (Hd.laidM (l.map (·.1)) 0) (l.map (·.2))
  have hgood : Hd.goodM (hdrOf l) L.length (l.map (·.2)) = true := by
    unfold hdrOf
    rw [Hd.laid_good hmay hb (by have := hs.1; have := hs.2; omega)]
    have hbl : Hd.blM (l.map (·.2)) (l.map (·.1)).length = true := by
      unfold Hd.blM
      rw [List.length_map, List.length_map, beq_self_eq_true, Bool.and_true]
      exact List.all_eq_true.mpr fun d hd => by
        obtain ⟨p, h1, rfl⟩ := List.mem_map.mp hd
        exact beq_iff_eq.mpr (r.len p h1)
    rw [hbl, Int.toNat_of_nonneg hs.1, beq_self_eq_true]; rfl
  have hg2 : Hd.goodM (readAt (fresh L) 1) (fresh L).lasts.length (l.map (·.2)) = true := by rw [e1]; exact hgood
  unfold heldM
  rw [show (fresh L).down = false from rfl, if_neg (by simp), if_neg (by show ¬ ((L.length : Int) < 98); omega), eN, if_neg (fun y => y rfl), eL, if_pos (.inr hg2)]
/-- an image that stands for w: its log is empty, or full of what is yet to come -/
inductive Hol (N : Nat) (L w : List (List UInt8)) : Prop where
  | emp : L[1]? = some (Hd.zeros 512) → Al N L w → Hol N L w
  | ful (l : Nb) : Log L l → Rise N l → l ≠ [] → l.length ≤ 96 → (∀ x ∈ L, x.length = 512) → L.length = N → Al N (applyTo (applyTo L l) [(1, Hd.zeros 512)]) w → Hol N L w
end Go.Proofs.YtpleolmalbdpnaaDoor.Wc
