/-
  PATHS: Make, Join, Clean.
-/
import Derived.Test.YtgpkcakanieodaaPaC
namespace Go.Proofs.Ytgpkcakanieodaa.Pa
open Go Go.Proofs Go.Proofs.Ytgpkcakanieodaa.Wx Go.Proofs.Ytgpkcakanieodaa.Hp Go.Proofs.Ytgpkcakanieodaa.W Go.Proofs.Ytgpkcakanieodaa.Sk Go.Proofs.Ytgpkcakanieodaa.Ch Go.Proofs.Ytgpkcakanieodaa.Rg

/-- a row, cut short: with room behind it, or without -/
theorem sl_sub {h : Heap} {l c m : Nat} {a : Option Addr} {xs : List Value} {F : Nat → Prop} (s : Sl h 1 a l c xs F) (hm : m ≤ l) (d : Nat) (hd : m ≤ d) (hd' : d ≤ c) : Sl h 1 a m d (xs.take m) F := by
  cases a with
  | none =>
    obtain ⟨h1, h2, h3⟩ := s
    have : m = 0 := by omega
    have hd0 : d = 0 := by omega
    subst this
    subst hd0
    exact ⟨rfl, rfl, rfl⟩
  | some p =>
    obtain ⟨h1, a1, a2, a3, a4, a5, a6⟩ := s
    rw [Nat.mul_one] at h1
    refine ⟨by rw [List.length_take]; omega, a1, a2, a3, hd, ?_, by rw [Nat.mul_one] at a6 ⊢; omega⟩
    rw [List.length_take, h1, Nat.min_eq_left hm]
    conv => rhs; rw [← a5]
    rw [List.take_take, h1, Nat.min_eq_left hm]
theorem strs_take (ps : List Txt) (m : Nat) : (strs ps).take m = strs (ps.take m) := by rw [strs, strs, List.map_take]
theorem strs_length (ps : List Txt) : (strs ps).length = ps.length := List.length_map ..
theorem strs_one (ps : List Txt) : ∀ v ∈ strs ps, v.oneCell' = true := by
  intro v hv; obtain ⟨p, _, rfl⟩ := List.mem_map.mp hv; rfl
theorem strs_cell {h : Heap} {a : Option Addr} {ps : List Txt} (c : SlCells h a (strs ps)) {i : Nat} (hi : i < ps.length) : ∃ p, a = some p ∧ cellOf h (p.add i) = some (.string (mkStr ps[i])) := by
  cases a with
  | none => have c : strs ps = [] := c; have := congrArg List.length c; rw [strs_length, List.length_nil] at this; omega
  | some p => exact ⟨p, rfl, c i _ (by rw [strs, List.getElem?_map, List.getElem?_eq_getElem hi]; rfl)⟩
def lastP (s : Txt) : Txt := (pieces s).getLastD []
def makeA (s : Txt) : List Txt × Txt × Int :=
  if wrongB s true = true then ([], [], 1) else if isDots (lastP s) = true then ([], [], 1) else match compA s with
    | none => ([], [], 130)
    | some cs => if cs = [] then ([], [], 0) else (cs.dropLast, cs.getLastD [], 0)
structure Ms (h : Heap) (s : Txt) (R : Loop) (pre : List Txt) (hh : Heap) : Prop where
  fr : Fr No h hh
  size : h.size + 4 ≤ hh.size
  o1 : Own hh h.size
  r1 : rd hh h.size = [.string (mkStr (pre.getLastD []))]
  r2 : rd hh (h.size + 1) = [.string (mkStr s)]
  d : hh[h.size + 2]? = some (.deferred (some []))
  on : LoopOn hh (h.size + 3) R .ready none
theorem getLastD_append {α : Type} (xs : List α) (x d : α) : (xs ++ [x]).getLastD d = x := by simp
theorem Make_spec {s : Txt} {h : Heap} {K : Value → Heap → Prop} (hl : s.length ≤ 9223372036854775806) (hK : ∀ a l c h', Fr No h h' → Ls h h' (makeA s).1 a l c → K (.tuple #[.slice a l c, .string (mkStr (makeA s).2.1), .int .i64 (makeA s).2.2]) h') : C.path_Make (mkStr s) h K := by
  refine path_Make.ok (wrong_spec ⟨_, rfl, ?_⟩)
  cases hw : wrongB s true with
  | true =>
    have e : makeA s = ([], [], 1) := by rw [makeA, if_pos hw]
    rw [e] at hK
    exact hK none 0 0 h (Fr.refl _ _) (ls_nil _ _)
  | false =>
    have hw' : ¬ wrongB s true = true := by rw [hw]; simp
    refine cf rfl (New.intro fun h3 n3 => ?_)
    refine Put.intro n3.own (by rw [n3.rd]; exact Nat.one_pos) fun h4 d4 => ?_
    refine path_pieces.ok (New.intro fun h5 n5 => ⟨_, rfl, fun R rounds => ?_⟩)
    have s3 := n3.size
    have s4 := d4.size
    have s5 := n5.size
    have e4 : h4.size = h.size + 1 := by omega
    have e5 : h5.size = h.size + 2 := by omega
    rw [e5] at rounds ⊢
    rw [e4]
    have F5 : Fr No h h5 := (n3.fr.did d4 fun x => by omega).new n5
    have Fb := beginL_fr h5 R
    have on0 := beginL_on h5 R
    have d0 := beginL_d h5 R
    rw [e5] at on0 d0
    have r5 : rd h5 h.size = [.string (mkStr [])] := (n5.at_ (by omega)).trans (by rw [d4.rd, n3.rd]; rfl)
    have r6 : rd h5 (h.size + 1) = [.string (mkStr s)] := by have := n5.rd; rw [e4] at this; exact this
    have J0 : Ms h s R [] (beginL h5 R) := ⟨F5.no Fb, by rw [beginL_size]; omega, Fb.own (by omega) (fun x => x) (n5.ow d4.own), (Fb.rd (by omega) fun x => x).trans r5, (Fb.rd (by omega) fun x => x).trans r6, d0, on0⟩
    show C.path_pieces_c1 (.func (.yield (h.size + 2 + 1)) #[] #[]) (some ⟨h.size + 1, 0, none⟩) (beginL h5 R) _
    refine iter_spec (s := s) hl (Ms h s R) (fun pre hh J => J.r2) (fun pre x rest hh J hp => ?_) J0 fun hh J => ?_
    · have hs := J.size
      refine rounds (mkStr x) hh _ J.on ⟨J.on, setL_intro (by omega) fun h7 t7 => ?_⟩
      have z7 := t7.size
      have o7 := t7.fr.own J.o1.lt (by omega) J.o1
      have r7 := (t7.fr.rd J.o1.lt (by omega)).trans J.r1
      refine Put.intro o7 (by rw [r7]; exact Nat.one_pos) fun h8 d8 => ?_
      have z8 := d8.size
      have t9 := turned (show h.size + 3 < h8.size by omega) R .ready none
      refine ⟨loopOn_fr t7.on d8.fr (by omega), .inl ⟨rfl, ((J.fr.trans t7.fr fun b hb e => by omega).did d8 fun x => by omega).trans t9.fr fun b hb e => by omega, Nat.le_trans (show h.size + 4 ≤ h8.size by omega) (Nat.le_of_eq t9.size.symm), t9.fr.own d8.own.lt (by omega) d8.own, ?_, ?_, ?_, t9.on⟩⟩
      · rw [t9.fr.rd d8.own.lt (by omega), d8.rd, r7, getLastD_append]; rfl
      · exact (t9.fr.rd (by omega) (by omega)).trans ((d8.at_ (by omega) (by omega)).trans ((t7.fr.rd (by omega) (by omega)).trans J.r2))
      · exact (t9.fr.same _ (by omega) (by omega)).trans ((d8.fr.same _ (by omega) (by omega)).trans ((t7.fr.same _ (by omega) (by omega)).trans J.d))
    · have hs := J.size
      refine ⟨.ready, none, J.on, by decide, pend_none (setL_intro (by omega) fun h10 t10 => ?_)⟩
      have z10 := t10.size
      have F10 : Fr No h h10 := J.fr.trans t10.fr fun b hb e => by omega
      have d10 : h10[h.size + 2]? = some (.deferred (some [])) := (t10.fr.same _ (by omega) (by omega)).trans J.d
      refine ⟨_, rdc ((t10.fr.rd (by omega) (by omega)).trans J.r1) rfl, does2_spec fun h11 v f11 _ _ => ⟨_, _, rfl, ?_⟩⟩
      have z11 := f11.size
      have F11 := F10.no f11
      have d11 : h11[h.size + 2]? = some (.deferred (some [])) := (f11.same _ (by omega) fun x => x).trans d10
      have el : isDots ((pieces s).getLastD []) = isDots (lastP s) := rfl
      rw [el]
      cases hd : isDots (lastP s) with
      | true =>
        have e : makeA s = ([], [], 1) := by rw [makeA, if_neg hw', if_pos hd]
        rw [e] at hK
        exact endD_intro d11 fun h12 z12 f12 => hK none 0 0 h12 (F11.trans f12 fun b hb e => by omega) (ls_nil _ _)
      | false =>
        have hd' : ¬ isDots (lastP s) = true := by rw [hd]; simp
        refine components_spec hl (fun hc h13 f13 => ?_) fun cs hc a c h13 f13 S => ?_
        · have e : makeA s = ([], [], 130) := by rw [makeA, if_neg hw', if_neg hd', hc]
          rw [e] at hK
          have d13 := (f13.same _ (by omega) fun x => x).trans d11
          exact ⟨_, _, _, _, rfl, ct rfl (endD_intro d13 fun h14 z14 f14 => hK none 0 0 h14 ((F11.no f13).trans f14 fun b hb e => by omega) (ls_nil _ _))⟩
        · have d13 := (f13.same _ (by omega) fun x => x).trans d11
          refine ⟨_, _, _, _, rfl, cf rfl (ce (fun h0 => ?_) fun h0 => ?_)⟩
          · have h0 : cs = [] := List.eq_nil_of_length_eq_zero (by omega)
            have e : makeA s = ([], [], 0) := by rw [makeA, if_neg hw', if_neg hd', hc]; show (if cs = [] then _ else _) = _; rw [if_pos h0]
            rw [e] at hK
            exact endD_intro d13 fun h15 z15 f15 => hK none 0 0 h15 ((F11.no f13).trans f15 fun b hb e => by omega) (ls_nil _ _)
          · have h1 : cs ≠ [] := fun e => by rw [e] at h0; exact h0 rfl
            have hpos : 0 < cs.length := List.length_pos_iff.mpr h1
            have e : makeA s = (cs.dropLast, cs.getLastD [], 0) := by rw [makeA, if_neg hw', if_neg hd', hc]; show (if cs = [] then _ else _) = _; rw [if_neg h1]
            rw [e] at hK
            unfold path_Make.k1
            have hcap := S.le
            have hcs : cs.length ≤ 32 := by
              have : fits cs = true := by
                unfold compA at hc
                split at hc
                · split at hc
                  · rename_i h; cases hc; exact h
                  · cases hc
                · cases hc
              rw [fits, Bool.and_eq_true, decide_eq_true_eq] at this; exact this.2
            rw [wrap_i64 (n := (cs.length : Int) - 1) (by omega) (by omega)]
            have et : ((cs.length : Int) - 1).toNat = cs.length - 1 := by omega
            rw [et]
            obtain ⟨p, rfl, cl⟩ := strs_cell S.cells (i := cs.length - 1) (by omega)
            refine ⟨⟨by omega, by omega, by omega⟩, ⟨by omega, by omega⟩, os ⟨_, cl, endD_intro (by rw [e5]; exact d13) fun h16 z16 f16 => ?_⟩⟩
            have eg : cs[cs.length - 1]'(by omega) = cs.getLastD [] := by
              rw [List.getLastD_eq_getLast?, List.getLast?_eq_getElem?, List.getElem?_eq_getElem (by omega)]; rfl
            rw [eg]
            refine hK (some p) (cs.length - 1) (cs.length - 1) h16 ((F11.no f13).trans f16 fun b hb e => by omega) ⟨by rw [List.length_dropLast], ?_⟩
            have S2 := sl_sub S (m := cs.length - 1) (by omega) (cs.length - 1) (Nat.le_refl _) (by omega)
            rw [strs_take, ← List.dropLast_eq_take] at S2
            exact (S2.fr f16 fun b hb h e => by have h : h11.size ≤ b := h; omega).mono fun b hb => by have hb : h11.size ≤ b := hb; show h.size ≤ b; omega
/-- may it be a part -/
def okPart (p : Txt) : Bool := !(p == []) && (!(p == [46]) && !(p.any isBad))
def longB (ps : List Txt) : Bool := decide (ps.length > 32) || ps.any fun p => decide (p.length > 27)
def joinT (ps : List Txt) : Txt := if ps = [] then [47] else slashed ps
def joinA (ps : List Txt) : Txt × Int := if ps.all okPart = true then (if longB ps = true then ([], 130) else (joinT ps, 0)) else ([], 1)
theorem slashed_length : ∀ ps : List Txt, (∀ p ∈ ps, p.length ≤ 27) → (slashed ps).length ≤ 28 * ps.length
  | [], _ => Nat.le_refl _
  | p :: r, h => by
    have h1 := h p (by simp)
    have h2 := slashed_length r fun q hq => h q (by simp [hq])
    show ((47 :: p) ++ slashed r).length ≤ 28 * (r.length + 1)
    rw [List.length_append, List.length_cons]; omega
theorem Join_pspec {a : Option Addr} {l c : Nat} {ps : List Txt} {h : Heap} {K : Value → Heap → Prop} (B : SlCells h a (strs ps)) (hl : ps.length = l) (hc : l ≤ c) (hn : l ≤ 140737488355328) (hp : ∀ p ∈ ps, p.length ≤ 140737488355328)
    (hK : ∀ h', Fr No h h' → K (.tuple #[.string (mkStr (joinA ps).1), .int .i64 (joinA ps).2]) h') : C.path_Join a l c h K := by
  subst hl
  refine path_Join.ok ⟨fun long n hh => 0 ≤ n ∧ n ≤ ps.length ∧ Fr No h hh ∧ (ps.take n.toNat).all okPart = true ∧ long = (decide (ps.length > 32) || (ps.take n.toNat).any fun p => decide (p.length > 27)), fun _ n _ => (ps.length - n).toNat,
    ⟨by omega, by omega, Fr.refl _ _, rfl, ?_⟩, ?_⟩
  · show _ = (_ || false)
    rw [Bool.or_false, Bool.eq_iff_iff, decide_eq_true_eq, decide_eq_true_eq]; omega
  rintro long n h2 ⟨n0, n1, f2, q, el⟩
  have B2 := SlCells.fr f2 B fun _ _ x => x
  refine cd (fun hi => ?_) fun hi => ?_
  · have hi' : n.toNat < ps.length := by omega
    obtain ⟨p, ea, cl⟩ := strs_cell B2 hi'
    subst ea
    have bad : okPart ps[n.toNat] = false → ∀ h', Fr No h h' → K (.tuple #[.string (mkStr []), .int .i64 1]) h' := fun e h' f => by
      have : joinA ps = ([], 1) := by
        rw [joinA, if_neg]
        intro ha
        have := List.all_eq_true.mp ha _ (List.getElem_mem hi')
        rw [e] at this; cases this
      have hK := hK h' f
      rw [this] at hK; exact hK
    refine ⟨⟨n0, hi⟩, os ⟨_, cl, ?_⟩⟩
    rw [toList_mkStr, toList_mkStr, toList_mkStr]
    cases e1 : (ps[n.toNat] == []) with
    | true => exact bad (by rw [okPart, e1]; rfl) h2 f2
    | false =>
      cases e2 : (ps[n.toNat] == [46]) with
      | true => exact bad (by rw [okPart, e1, e2]; rfl) h2 f2
      | false =>
        refine cf rfl (cf rfl (ContainsAny_spec (hp _ (List.getElem_mem hi')) fun h3 f3 => ⟨_, rfl, ?_⟩))
        cases e3 : (ps[n.toNat]).any isBad with
        | true => exact bad (by rw [okPart, e1, e2, e3]; rfl) h3 (f2.no f3)
        | false =>
          have eo : okPart ps[n.toNat] = true := by rw [okPart, e1, e2, e3]; rfl
          have q2 : (ps.take (n + 1).toNat).all okPart = true := by
            rw [show (n + 1).toNat = n.toNat + 1 by omega, List.take_succ_eq_append_getElem hi', List.all_append, q, List.all_cons, eo]; rfl
          have l2 : (ps.take (n + 1).toNat).any (fun p => decide (p.length > 27)) = ((ps.take n.toNat).any (fun p => decide (p.length > 27)) || decide ((ps[n.toNat]).length > 27)) := by
            rw [show (n + 1).toNat = n.toNat + 1 by omega, List.take_succ_eq_append_getElem hi', List.any_append, List.any_cons, List.any_nil, Bool.or_false]
          unfold path_Join.k1
          rw [wrap_i64 (n := n + 1) (by omega) (by omega), size_mk]
          have me : ((ps.length : Int) - (n + 1)).toNat < ((ps.length : Int) - n).toNat := by omega
          cases long with
          | true => exact ⟨⟨by omega, by omega, f2.no f3, q2, by rw [l2, ← Bool.or_assoc, ← el, Bool.true_or]⟩, me⟩
          | false =>
            refine ⟨⟨by omega, by omega, f2.no f3, q2, ?_⟩, me⟩
            rw [l2, ← Bool.or_assoc, ← el, Bool.false_or, Bool.eq_iff_iff, decide_eq_true_eq, decide_eq_true_eq]; omega
  · rw [List.take_of_length_le (by omega)] at q el
    have eL : longB ps = long := el.symm
    cases long with
    | true =>
      have : joinA ps = ([], 130) := by rw [joinA, if_pos q, if_pos eL]
      have hK := hK h2 f2
      rw [this] at hK; exact hK
    | false =>
      have ej : joinA ps = (joinT ps, 0) := by rw [joinA, if_pos q, if_neg (by rw [eL]; simp)]
      rw [ej] at hK
      rw [longB, Bool.or_eq_false_iff, decide_eq_false_iff_not] at eL
      have hlen : ∀ p ∈ ps, p.length ≤ 27 := fun p hp => by
        have := List.any_eq_false.mp eL.2 p hp
        simp only [decide_eq_true_eq] at this; omega
      have slen := slashed_length ps hlen
      cases hps : ps with
      | nil =>
        rw [hps] at hK
        refine Join_none ⟨_, rfl, by decide, ?_⟩
        exact hK h2 f2
      | cons x r =>
        rw [← hps]
        have h0 : 0 < ps.length := by rw [hps]; exact Nat.succ_pos _
        obtain ⟨p, ea, cl0⟩ := strs_cell B2 h0
        subst ea
        rw [Addr.add_zero] at cl0
        have ejn : 47 :: Lib.join ps [47] = slashed ps := by rw [hps]; exact join_slashed x r
        have jl : (Lib.join ps [47]).length + 1 = (slashed ps).length := by rw [← ejn]; rfl
        refine Join_spec (ps := ps) B2 (cellOf_some cl0).1 rfl hc h0 hn (by omega) fun h5 f5 => ⟨_, rfl, ?_, ?_⟩
        · show (((1 + (Lib.join ps [47]).length : Nat)) : Int) ≤ _
          omega
        · have e : mkStr [47] ++ mkStr (Lib.join ps [47]) = mkStr (joinT ps) := by
            rw [joinT, if_neg (fun e => by rw [e] at h0; cases h0), ← ejn]
            apply ByteArray.ext
            rw [ByteArray.data_append]
            simp [mkStr]
          rw [e]; exact hK h5 (f2.no f5)
/-- what Clean leaves of the components -/
def cleanStep (left : List Txt) (p : Txt) : List Txt := if p = [46, 46] then left.dropLast else left ++ [p]
def cleanL (cs : List Txt) : List Txt := cs.foldl cleanStep []
def cleanA (s : Txt) : Txt × Int := if (parseA s true).2 = 0 then joinA (cleanL (parseA s true).1) else ([], (parseA s true).2)
theorem hv_one {P : Program} {g : Nat} {x : Value} {h : Heap} {k : Value → Heap → Prop} (y : HCalls P g [x] h k) : HCallsV P (.func (.func g) #[] #[]) [x] h k := y
theorem parse_fits {s : Txt} {b : Bool} : (parseA s b).1.length ≤ 32 ∧ (∀ p ∈ (parseA s b).1, p ≠ [46] ∧ p.length ≤ 27) := by
  unfold parseA
  split
  · exact ⟨Nat.zero_le _, fun p hp => by cases hp⟩
  · split
    · exact ⟨Nat.zero_le _, fun p hp => by cases hp⟩
    · rename_i cs hc
      unfold compA at hc
      split at hc
      · split at hc
        · rename_i hf
          cases hc
          rw [fits, Bool.and_eq_true, decide_eq_true_eq, List.all_eq_true] at hf
          refine ⟨hf.2, fun p hp => ⟨fun e => ?_, by simpa using hf.1 p hp⟩⟩
          have hp : p ∈ (pieces s).filter fun p => !(p == [46]) := hp
          have := (List.mem_filter.mp hp).2
          rw [e] at this; cases this
        · cases hc
      · cases hc
theorem cleanStep_le {left : List Txt} {p : Txt} {n : Nat} (h1 : left.length ≤ n) (h2 : ∀ q ∈ left, q.length ≤ 27) (hp : p.length ≤ 27) : (cleanStep left p).length ≤ n + 1 ∧ ∀ q ∈ cleanStep left p, q.length ≤ 27 := by
  unfold cleanStep
  split
  · exact ⟨by rw [List.length_dropLast]; omega, fun q hq => h2 q (List.dropLast_subset _ hq)⟩
  · refine ⟨by rw [List.length_append, List.length_singleton]; omega, fun q hq => ?_⟩
    rcases List.mem_append.mp hq with hq | hq
    · exact h2 q hq
    · rw [List.mem_singleton.mp hq]; exact hp
theorem Clean_spec {s : Txt} {h : Heap} {K : Value → Heap → Prop} (hl : s.length ≤ 9223372036854775806) (hK : ∀ h', Fr No h h' → K (.tuple #[.string (mkStr (cleanA s).1), .int .i64 (cleanA s).2]) h') : C.path_Clean (mkStr s) h K := by
  refine path_Clean.ok (Parse_spec hl fun a l c h2 f2 L => ⟨_, _, _, _, rfl, cn (fun hne => ?_) fun he => ?_⟩)
  · have e : cleanA s = ([], (parseA s true).2) := by rw [cleanA, if_neg hne]
    rw [e] at hK
    exact hK h2 f2
  · have e : cleanA s = joinA (cleanL (parseA s true).1) := by rw [cleanA, if_pos he]
    rw [e] at hK
    obtain ⟨fl, fp⟩ := parse_fits (s := s) (b := true)
    generalize (parseA s true).1 = cs at L fl fp hK
    obtain ⟨rfl, S⟩ := L
    refine ⟨fun a1 l1 c1 n hh => 0 ≤ n ∧ n ≤ cs.length ∧ Fr No h2 hh ∧ l1 = (cleanL (cs.take n.toNat)).length ∧ l1 ≤ n ∧ (∀ q ∈ cleanL (cs.take n.toNat), q.length ≤ 27) ∧ Sl hh 1 a1 l1 c1 (strs (cleanL (cs.take n.toNat))) (From h2.size), fun _ _ _ n _ => (cs.length - n).toNat,
      ⟨by omega, by omega, Fr.refl _ _, rfl, Int.le_refl _, fun q hq => (by cases hq), Sl.nil _ _ _⟩, ?_⟩
    rintro a1 l1 c1 n h3 ⟨n0, n1, f3, e1, hl1, hq1, S1⟩
    refine cd (fun hi => ?_) fun hi => ?_
    · have hi' : n.toNat < cs.length := by omega
      obtain ⟨p, rfl, cl⟩ := strs_cell (SlCells.fr f3 S.cells fun _ _ x => x) hi'
      have hp := fp _ (List.getElem_mem hi')
      have et : cs.take (n + 1).toNat = cs.take n.toNat ++ [cs[n.toNat]] := by rw [show (n + 1).toNat = n.toNat + 1 by omega, List.take_succ_eq_append_getElem hi']
      have ec : cleanL (cs.take (n + 1).toNat) = cleanStep (cleanL (cs.take n.toNat)) cs[n.toNat] := by rw [et, cleanL, List.foldl_append]; rfl
      have sz := cleanStep_le (n := n.toNat) (by omega) hq1 hp.2
      have me : ((cs.length : Int) - (n + 1)).toNat < ((cs.length : Int) - n).toNat := by omega
      refine ⟨⟨n0, hi⟩, os ⟨_, cl, does2_spec fun h4 v f4 _ hv => ⟨_, _, rfl, ?_⟩⟩⟩
      have z4 := f4.size
      have z3 := f3.size
      have S4 := S1.fr f4 fun _ _ _ x => x
      by_cases hd : cs[n.toNat] = [46, 46]
      · have eb : isDots cs[n.toNat] = true := by rw [hd]; rfl
        rw [hv hd]
        refine ct eb (hv_one (show C.path_does_c2 a1 l1 c1 h4 _ from path_does_c2.ok ?_))
        have ecs : cleanL (cs.take (n + 1).toNat) = (cleanL (cs.take n.toNat)).dropLast := by rw [ec, cleanStep, if_pos hd]
        have hc1 := S4.le
        unfold path_does_c2
        rw [wrap_i64 (n := (l1 : Int) - 1) (by omega) (by omega), wrap_i64 (n := n + 1) (by omega) (by omega)]
        have em : (if (l1 : Int) - 1 > 0 then (l1 : Int) - 1 else 0) = ((l1 - 1 : Nat) : Int) := by split <;> omega
        rw [em]
        refine ⟨⟨by omega, by omega⟩, _, _, _, rfl, ⟨by omega, by omega, f3.no f4, ?_, ?_, ?_, ?_⟩, me⟩
        · rw [ecs, List.length_dropLast, ← e1]; omega
        · omega
        · rw [ec]; exact sz.2
        · rw [ecs, show ((l1 - 1 : Nat) : Int).toNat = l1 - 1 by omega, List.dropLast_eq_take, ← e1, ← strs_take]
          exact sl_sub S4 (by omega) c1 (by omega) (Nat.le_refl _)
      · have eb : isDots cs[n.toNat] = false := by
          rw [isDots, beq_eq_false_iff_ne.mpr hp.1, beq_eq_false_iff_ne.mpr hd]; rfl
        have ecs : cleanL (cs.take (n + 1).toNat) = cleanL (cs.take n.toNat) ++ [cs[n.toNat]] := by rw [ec, cleanStep, if_neg hd]
        refine cf eb (New.intro fun h6 n6 => ⟨strs [cs[n.toNat]], rfl, cellsAll n6.rd, strs_one _, ?_⟩)
        have z6 := n6.size
        refine append_own (S4.fr n6.fr fun _ _ _ x => x) rfl rfl (by have b16 : ti9.bytes ≤ 16 := (by decide); have := Nat.mul_le_mul (show l1 + 1 ≤ 40 from (by omega)) b16; exact Nat.le_trans this (by decide)) (by omega) fun a7 c7 h7 f7 S7 => ?_
        rw [wrap_i64 (n := n + 1) (by omega) (by omega)]
        refine ⟨⟨by omega, by omega, ((f3.no f4).new n6).trans f7 fun b hb x => by have x : h2.size ≤ b := x; omega, ?_, by omega, by rw [ec]; exact sz.2, ?_⟩, me⟩
        · rw [ecs, List.length_append, List.length_singleton, ← e1]
        · rw [ecs]
          have S7 : Sl h7 1 a7 (l1 + 1) c7 (strs (cleanL (cs.take n.toNat) ++ [cs[n.toNat]])) (fun b => From h2.size b ∨ h6.size ≤ b) := by rw [strs, List.map_append]; exact S7
          exact S7.mono fun b hb => by
            rcases hb with hb | hb
            · exact hb
            · show h2.size ≤ b; omega
    · rw [List.take_of_length_le (by omega)] at e1 hq1 S1
      refine Join_pspec S1.cells e1.symm S1.le (by omega) (fun q hq => by have := hq1 q hq; omega) fun h8 f8 => ⟨_, _, rfl, hK h8 ((f2.no f3).no f8)⟩
end Go.Proofs.Ytgpkcakanieodaa.Pa
