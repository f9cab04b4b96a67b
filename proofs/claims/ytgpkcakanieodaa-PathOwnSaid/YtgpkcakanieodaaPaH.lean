/-
  PATHS: the walk of PathSlashes.
-/
import Derived.Test.YtgpkcakanieodaaPaF
namespace Go.Proofs.Ytgpkcakanieodaa.Pa
open Go Go.Proofs Go.Proofs.Ytgpkcakanieodaa.Wx Go.Proofs.Ytgpkcakanieodaa.Hp Go.Proofs.Ytgpkcakanieodaa.W Go.Proofs.Ytgpkcakanieodaa.Sk Go.Proofs.Ytgpkcakanieodaa.Ch Go.Proofs.Ytgpkcakanieodaa.Rg

theorem last_slash : ∀ t : Txt, 47 ∈ t → ∃ u w, t = u ++ 47 :: w ∧ ∀ b ∈ w, b ≠ 47
  | [], h => by cases h
  | b :: r, h => by
    by_cases hr : (47 : UInt8) ∈ r
    · obtain ⟨u, w, rfl, hw⟩ := last_slash r hr
      exact ⟨b :: u, w, rfl, hw⟩
    · rcases List.mem_cons.mp h with e | e
      · exact ⟨[], r, by rw [← e]; rfl, fun x hx e => hr (e ▸ hx)⟩
      · exact absurd e hr
theorem pieces_one {w : Txt} (h0 : w ≠ []) (h : ∀ b ∈ w, b ≠ 47) : pieces w = [w] := by
  have := pieces_word (r := []) h0 h (.inl rfl)
  rw [List.append_nil] at this
  exact this
theorem lastP_slash {u w : Txt} (h0 : w ≠ []) (h : ∀ b ∈ w, b ≠ 47) : lastP (u ++ 47 :: w) = w := by
  rw [lastP, pieces_split, pieces_one h0 h, getLastD_append]
theorem get_last {t : Txt} (hn : 0 < t.length) : ∃ u b, t = u ++ [b] ∧ u.length = t.length - 1 :=
  ⟨t.dropLast, t.getLast (List.length_pos_iff.mp hn), (List.dropLast_concat_getLast _).symm, List.length_dropLast⟩
theorem nat_byte {b : UInt8} {k : Nat} (hk : k < 256) : (((UInt8.toNat b : Nat) : Int) = (k : Int)) ↔ b = UInt8.ofNat k := by
  constructor
  · intro h
    apply UInt8.toNat_inj.mp
    rw [UInt8.toNat_ofNat']; omega
  · intro h; rw [h, UInt8.toNat_ofNat']; omega
theorem dotted_spec {s : Txt} {h : Heap} {K : Value → Heap → Prop} (hl : s.length ≤ 9223372036854775806) (h47 : s.head? = some 47) (hK : K (.bool (decide (lastP s = [46]))) h) : C.bolelaw13_dotted (mkStr s) h K := by
  refine bolelaw13_dotted.ok ⟨fun x hh => h = hh ∧ ∃ t : Txt, x = mkStr t ∧ t.length ≤ s.length ∧ pieces t = pieces s ∧ (t = [] ∨ t.head? = some 47), fun x _ => x.size, ⟨rfl, s, rfl, Nat.le_refl _, rfl, .inr h47⟩, ?_⟩
  rintro _ _ ⟨rfl, t, rfl, tl, tp, th⟩
  have elast : lastP t = lastP s := by rw [lastP, lastP, tp]
  have fin : (∀ u, t ≠ u ++ [47]) → bolelaw13_dotted.k1 (mkStr t) h K := by
    intro hno
    unfold bolelaw13_dotted.k1
    rw [size_mk, toList_mkStr]
    rw [← elast] at hK
    rcases th with rfl | th
    · exact cf (by decide) hK
    · have hm : 47 ∈ t := by
        cases t with
        | nil => cases th
        | cons b r => rw [Option.some.inj th]; exact List.mem_cons_self ..
      obtain ⟨u, w, rfl, hw⟩ := last_slash t hm
      have hw0 : w ≠ [] := fun e => hno u (by rw [e])
      rw [lastP_slash hw0 hw] at hK
      have wpos := List.length_pos_iff.mpr hw0
      have elen : (u ++ 47 :: w).length = u.length + w.length + 1 := by rw [List.length_append, List.length_cons]; omega
      refine ct (decide_eq_true (by omega)) ?_
      rw [wrap_i64 (n := ((u ++ 47 :: w).length : Int) - 1) (by omega) (by omega), wrap_i64 (n := ((u ++ 47 :: w).length : Int) - 2) (by omega) (by omega)]
      have e1 : (((u ++ 47 :: w).length : Int) - 1).toNat = u.length + w.length := by omega
      have e2 : (((u ++ 47 :: w).length : Int) - 2).toNat = u.length + w.length - 1 := by omega
      rw [e1, e2]
      have g1 : (u ++ 47 :: w)[u.length + w.length]? = some (w[w.length - 1]'(by omega)) := by
        rw [List.getElem?_append_right (by omega), show u.length + w.length - u.length = (w.length - 1) + 1 by omega, List.getElem?_cons_succ, List.getElem?_eq_getElem (by omega)]
      refine ⟨⟨by omega, by omega⟩, _, g1, ce (fun hb => ?_) fun hb => ?_⟩
      · have hb := (nat_byte (k := 46) (by decide)).mp hb
        by_cases h1 : w.length = 1
        · refine ⟨⟨by omega, by omega⟩, 47, ?_, ?_⟩
          · rw [List.getElem?_append_right (by omega), show u.length + w.length - 1 - u.length = 0 by omega]; rfl
          · have ew : w = [46] := by
              obtain ⟨x, rfl⟩ := List.length_eq_one_iff.mp h1
              have hb : x = _ := hb
              rw [hb]; rfl
            rw [decide_eq_true ew] at hK; exact hK
        · have g2 : (u ++ 47 :: w)[u.length + w.length - 1]? = some (w[w.length - 2]'(by omega)) := by
            rw [List.getElem?_append_right (by omega), show u.length + w.length - 1 - u.length = (w.length - 2) + 1 by omega, List.getElem?_cons_succ, List.getElem?_eq_getElem (by omega)]
          refine ⟨⟨by omega, by omega⟩, _, g2, ?_⟩
          rw [decide_eq_false (fun e => h1 (by rw [e]; rfl))] at hK
          rw [show ((((w[w.length - 2]'(by omega)).toNat : Nat) : Int) == 47) = false from beq_eq_false_iff_ne.mpr fun e => hw _ (List.getElem_mem (by omega)) ((nat_byte (k := 47) (by decide)).mp e)]
          exact hK
      · rw [decide_eq_false (fun e => hb (by simp only [e]; rfl))] at hK; exact hK
  rw [size_mk, toList_mkStr]
  refine cd (fun hp => ?_) fun hp => fin fun u e => by rw [e, List.length_append, List.length_singleton] at hp; omega
  obtain ⟨u, b, rfl, hu⟩ := get_last (t := t) (by omega)
  have el : (u ++ [b]).length = u.length + 1 := by rw [List.length_append, List.length_singleton]
  rw [wrap_i64 (n := ((u ++ [b]).length : Int) - 1) (by omega) (by omega)]
  have e1 : (((u ++ [b]).length : Int) - 1).toNat = u.length := by omega
  rw [e1]
  refine ⟨⟨by omega, by omega⟩, b, by rw [List.getElem?_append_right (Nat.le_refl _), Nat.sub_self]; rfl, ce (fun hb => ?_) fun hb => fin fun v e => ?_⟩
  · have hb : b = 47 := (nat_byte (k := 47) (by decide)).mp hb
    subst hb
    refine ⟨⟨by omega, by omega⟩, ⟨rfl, u, ?_, by omega, ?_, ?_⟩, ?_⟩
    · rw [extract_mk, List.drop_zero, Nat.sub_zero, List.take_left' rfl]
    · rw [← tp, pieces_split]; exact (List.append_nil _).symm
    · cases u with
      | nil => exact .inl rfl
      | cons x r => rcases th with th | th; cases th; exact .inr th
    · show (ByteArray.extract (mkStr (u ++ [47])) 0 u.length).size < (mkStr (u ++ [47])).size
      rw [extract_mk, size_mk, size_mk, List.length_take, List.drop_zero]; omega
  · have : b = 47 := by
      have := congrArg List.getLast? e
      rw [List.getLast?_append, List.getLast?_append] at this
      exact Option.some.inj this
    exact hb ((nat_byte (k := 47) (by decide)).mpr this)
/-- s with slashes and dots more -/
structure More (s : Txt) (cs : List Txt) (s' : Txt) : Prop where
  t : Taken s' true cs
  last : lastP s' = lastP s ∨ lastP s' = [46]
theorem last_app {xs ys : List Txt} (h : ys ≠ []) (d : Txt) : (xs ++ ys).getLastD d = ys.getLastD d := by
  rw [List.getLastD_eq_getLast?, List.getLastD_eq_getLast?, List.getLast?_append, List.getLast?_eq_some_getLast h]; rfl
theorem last_cons {x : Txt} {ys : List Txt} (d : Txt) : (x :: ys).getLastD d = if ys = [] then x else ys.getLastD d := by
  by_cases h : ys = []
  · rw [if_pos h, h]; rfl
  · rw [if_neg h]; exact last_app (xs := [x]) h d
theorem More.put {s u v : Txt} {cs : List Txt} (m : More s cs (u ++ 47 :: v)) (dot : Bool) (hl : (u ++ 47 :: v).length + (if dot = true then 2 else 1) ≤ 1024) :
    More s cs (u ++ 47 :: ((if dot = true then [46, 47] else [47]) ++ v)) := by
  obtain ⟨h1, h2, h3⟩ := m.t.is
  obtain ⟨w1, w2, w3⟩ := not_wrong m.t.w
  have w3 := w3 rfl
  have ml := m.last
  have hp := pieces_split u v
  have hh : (u ++ 47 :: ((if dot = true then [46, 47] else [47]) ++ v)).head? = some 47 := by
    cases u with
    | nil => rfl
    | cons x r => exact w3
  have hz : ∀ x ∈ u ++ 47 :: ((if dot = true then [46, 47] else [47]) ++ v), x ≠ 0 := by
    intro x hx
    have hx : x ∈ u ∨ x = 47 ∨ x ∈ (if dot = true then [46, 47] else [47]) ∨ x ∈ v := by
      rw [List.mem_append, List.mem_cons, List.mem_append] at hx; exact hx
    rcases hx with hx | rfl | hx | hx
    · exact w2 x (by simp [hx])
    · decide
    · cases dot with
      | true =>
        have hx : x ∈ ([46, 47] : List UInt8) := hx
        rcases List.mem_cons.mp hx with rfl | hx
        · decide
        · rw [List.mem_singleton.mp hx]; decide
      | false =>
        have hx : x ∈ ([47] : List UInt8) := hx
        rw [List.mem_singleton.mp hx]; decide
    · exact w2 x (by simp [hx])
  have hw := wrong_mk (s := u ++ 47 :: ((if dot = true then [46, 47] else [47]) ++ v)) (b := true) (fun e => by rw [e] at hh; cases hh) hz fun _ => hh
  cases dot with
  | false =>
    have e : pieces (u ++ 47 :: ([47] ++ v)) = pieces (u ++ 47 :: v) := by rw [pieces_split, hp]; rfl
    refine ⟨Taken.mk' hw ?_ ?_ h3, ?_⟩
    · show (u ++ 47 :: ([47] ++ v)).length ≤ 1024
      simp only [List.length_append, List.length_cons, List.length_nil, Bool.false_eq_true, if_false] at hl ⊢; omega
    · show noDot (pieces (u ++ 47 :: ([47] ++ v))) = cs
      rw [e]; exact h2.symm
    · show (pieces (u ++ 47 :: ([47] ++ v))).getLastD [] = _ ∨ (pieces (u ++ 47 :: ([47] ++ v))).getLastD [] = _
      rw [e]; exact ml
  | true =>
    have e : pieces (u ++ 47 :: ([46, 47] ++ v)) = pieces u ++ [46] :: pieces v := by
      rw [pieces_split]
      exact congrArg _ (pieces_word (w := [46]) (r := 47 :: v) (by simp) (fun b hb => by rw [List.mem_singleton.mp hb]; decide) (.inr ⟨v, rfl⟩))
    refine ⟨Taken.mk' hw ?_ ?_ h3, ?_⟩
    · show (u ++ 47 :: ([46, 47] ++ v)).length ≤ 1024
      simp only [List.length_append, List.length_cons, List.length_nil, if_true] at hl ⊢; omega
    · show noDot (pieces (u ++ 47 :: ([46, 47] ++ v))) = cs
      rw [e, h2, comps, hp, noDot, noDot, List.filter_append, List.filter_append]
      rfl
    · show (pieces (u ++ 47 :: ([46, 47] ++ v))).getLastD [] = _ ∨ (pieces (u ++ 47 :: ([46, 47] ++ v))).getLastD [] = _
      rw [e, last_app (by simp), last_cons]
      by_cases hv : pieces v = []
      · rw [if_pos hv]; exact .inr rfl
      · rw [if_neg hv]
        have : lastP (u ++ 47 :: v) = (pieces v).getLastD [] := by rw [lastP, hp, last_app hv]
        rw [← this]; exact ml
/-- what is put: where, and is it a dot -/
def putV (p : Int × Bool) : List Value := [.int .i64 p.1, .bool p.2]
/-- the places of slashes -/
def Places (s : Txt) (ns : List Int) : Prop := ∀ n ∈ ns, 0 ≤ n ∧ n < s.length ∧ s[n.toNat]? = some 47
theorem mk_app (x y : Txt) : mkStr x ++ mkStr y = mkStr (x ++ y) := by
  apply ByteArray.ext
  rw [ByteArray.data_append]
  simp [mkStr]
theorem PathSlashes_spec {s : Txt} {a : Option Addr} {l c : Nat} {ps : List (Int × Bool)} {h : Heap} {K : Value → Heap → Prop} (hl : s.length ≤ 9223372036854775806) (B : SlCells h a (ps.flatMap putV)) (hp : ps.length = l) (hl2 : l ≤ 140737488355328)
    (hK : ∀ h', Fr No h h' → K (.bool true) h') : C.bolelaw13_PathSlashes (mkStr s) a l c h K := by
  subst hp
  refine bolelaw13_PathSlashes.ok (known_spec fun h2 f2 => ⟨_, rfl, cf rfl (Parse_spec hl fun a1 l1 c1 h3 f3 L => ⟨_, _, _, _, rfl, num_step ?_⟩)⟩)
  by_cases h0 : (parseA s true).2 = 0
  · have T := taken_of h0
    generalize (parseA s true).1 = cs at T L
    have fl := T.is.2.2
    rw [fits, Bool.and_eq_true, decide_eq_true_eq] at fl
    rw [h0]
    refine cf rfl (Make_spec hl fun a2 l2 c2 h7 f7 LM => ⟨_, _, _, _, _, rfl, ?_⟩)
    have F7 := (f2.no f3).no f7
    have lens := T.len
    refine ⟨fun x i hh => 0 ≤ i ∧ i ≤ ps.length ∧ Fr No h7 hh ∧ ∃ s', x = mkStr s' ∧ More s cs s', fun _ i _ => (ps.length - i).toNat, ⟨by omega, by omega, Fr.refl _ _, s, rfl, T, .inl rfl⟩, ?_⟩
    rintro _ i h8 ⟨i0, i1, f8, s', rfl, M⟩
    have len' := M.t.is.1
    have h47 := (not_wrong M.t.w).2.2 rfl
    -- the end
    have fin : ∀ h14, Fr No h8 h14 → bolelaw13_PathSlashes.k2 a1 l1 c1 a2 l2 c2 (mkStr (makeA s).2.1) (makeA s).2.2 (mkStr s') h14 K := by
      intro h14 f14
      unfold bolelaw13_PathSlashes.k2
      refine Parse_spec (by omega) fun a4 l4 c4 h15 f15 L4 => ⟨_, _, _, _, rfl, num_step ?_⟩
      rw [M.t.eq] at L4 ⊢
      have G := (f8.no f14).no f15
      refine cf rfl (same_rd L4.rd (((L.rd.no f7).no G)) (by dsimp only; omega) ⟨_, rfl, cf (by rw [decide_eq_true rfl]; rfl) ?_⟩)
      unfold bolelaw13_PathSlashes.k3
      refine Make_spec (by omega) fun a5 l5 c5 h19 f19 L5 => ⟨_, _, _, _, _, rfl, ?_⟩
      have G2 := (F7.no G).no f19
      refine dotted_spec (by omega) h47 ⟨_, rfl, ?_⟩
      rw [make_taken M.t] at L5 ⊢
      refine cd (fun hd => ?_) fun hd => num_step ?_
      · rw [if_pos (show isDots (lastP s') = true by rw [hd]; rfl)] at L5 ⊢
        obtain ⟨rfl, _⟩ := L5
        refine num_step (ct rfl (ct rfl ?_))
        rw [toList_mkStr]; exact hK h19 G2
      · have el : lastP s' = lastP s := M.last.resolve_right hd
        rw [el] at L5 ⊢
        have em := make_taken T
        rw [← em] at L5 ⊢
        refine ce (fun h1 => num_step ?_) fun h1 => ?_
        · rw [h1]; exact hK h19 G2
        · refine ct (beq_self_eq_true _) (same_rd L5.rd (((LM.rd.no G).no f19)) ?_ ⟨_, rfl, ct (decide_eq_true rfl) ?_⟩)
          · rw [em]
            split
            · exact Nat.zero_le _
            · split
              · exact Nat.zero_le _
              · show cs.dropLast.length ≤ _; rw [List.length_dropLast]; omega
          · rw [beq_self_eq_true]; exact hK h19 G2
    refine cd (fun hi => ?_) fun hi => fin h8 (Fr.refl _ _)
    have hi' : i.toNat < ps.length := by omega
    have B8 := SlCells.fr ((F7.no f8)) B fun _ _ x => x
    cases a with
    | none =>
      exfalso
      have B8 : ps.flatMap putV = [] := B8
      have := congrArg List.length B8
      rw [flat_length putV 2 ps (fun _ _ => rfl), List.length_nil] at this
      omega
    | some p =>
      have cl : Cells h8 (p.add (i.toNat * 2)) (putV ps[i.toNat]) := by
        have := Cells.part (show Cells h8 p _ from B8) (i.toNat * 2) 2
        rw [flat_part putV 2 ps (fun _ _ => rfl) i.toNat hi'] at this
        exact this
      refine ⟨⟨i0, hi⟩, os ⟨putV ps[i.toNat], rfl, cl, NewRow.intro rfl (fun v hv => ?_) (by kernel_rfl) fun h10 n10 => ?_⟩⟩
      · rcases List.mem_cons.mp hv with rfl | hv
        · rfl
        · rw [List.mem_singleton.mp hv]; rfl
      rw [size_mk, toList_mkStr]
      have z10 := n10.size
      refine ⟨fun sa sl sc j hh => 0 ≤ j ∧ j ≤ s'.length ∧ Fr No h10 hh ∧ ∃ ns : List Int, Places s' ns ∧ ns.length = sl ∧ sl ≤ j ∧ (0 < j → 0 < sl) ∧ Sl hh 1 sa sl sc (ns.map fun n => .int .i64 n) (From h10.size), fun _ _ _ j _ => (s'.length - j).toNat,
        ⟨by omega, by omega, Fr.refl _ _, [], fun n hn => (by cases hn), rfl, Int.le_refl _, fun x => by omega, Sl.nil _ _ _⟩, ?_⟩
      rintro sa sl sc j h11 ⟨j0, j1, f11, ns, P, en, hj, hpos, S⟩
      have z11 := f11.size
      refine cd (fun hlt => ?_) fun hge => ?_
      · have hj' : j.toNat < s'.length := by omega
        have me : ((s'.length : Int) - (j + 1)).toNat < ((s'.length : Int) - j).toNat := by omega
        refine ⟨⟨j0, hlt⟩, s'[j.toNat], List.getElem?_eq_getElem hj', ?_⟩
        rw [wrap_i64 (n := j + 1) (by omega) (by omega)]
        refine ce (fun hb => ?_) fun hb => ⟨⟨by omega, by omega, f11, ns, P, en, by omega, fun _ => ?_, S⟩, me⟩
        · have hb : s'[j.toNat] = 47 := (nat_byte (k := 47) (by decide)).mp hb
          refine New.intro fun h12 n12 => ⟨[.int .i64 j], rfl, cellsAll n12.rd, by intro v hv; rw [List.mem_singleton.mp hv]; rfl, ?_⟩
          refine append_own (S.fr n12.fr fun _ _ _ x => x) rfl rfl (by have b8 : ti3.bytes ≤ 8 := (by decide); have := Nat.mul_le_mul (show sl + 1 ≤ 1025 from (by omega)) b8; exact Nat.le_trans this (by decide)) (by omega) fun a' c' h13 f13 S13 => ?_
          have z12 := n12.size
          refine ⟨⟨by omega, by omega, (f11.new n12).trans f13 fun b hb x => by have x : h10.size ≤ b := x; omega, ns ++ [j], fun n hn => ?_, by rw [List.length_append, List.length_singleton]; omega, by omega, fun _ => by omega, ?_⟩, me⟩
          · rcases List.mem_append.mp hn with hn | hn
            · exact P n hn
            · rw [List.mem_singleton.mp hn]
              exact ⟨j0, hlt, by rw [List.getElem?_eq_getElem hj', hb]⟩
          · rw [List.map_append]
            exact S13.mono fun b hb => by
              rcases hb with hb | hb
              · exact hb
              · show h10.size ≤ b; omega
        · rcases Int.lt_or_le 0 j with h | h
          · exact hpos h
          · exfalso
            have : j.toNat = 0 := by omega
            cases s' with
            | nil => cases h47
            | cons x r =>
              have hx : x = 47 := Option.some.inj h47
              apply hb
              simp only [this]
              rw [hx]; rfl
      · have hlp : 0 < s'.length := by
          cases s' with
          | nil => cases h47
          | cons _ _ => rw [List.length_cons]; omega
        have spos := hpos (by omega)
        have r10 : rd h11 h8.size = putV ps[i.toNat] := (f11.rd (by omega) fun x => x).trans n10.rd
        refine ⟨ps[i.toNat].2, rda r10 rfl, ?_⟩
        have FF := n10.fr.no f11
        -- the text is made longer
        have put : bolelaw13_PathSlashes.k1 a1 l1 c1 a2 l2 c2 (mkStr (makeA s).2.1) (makeA s).2.2 (mkStr s') i h8 (fun x i hh => 0 ≤ i ∧ i ≤ ps.length ∧ Fr No h7 hh ∧ ∃ s', x = mkStr s' ∧ More s cs s') (fun _ i _ => (ps.length - i).toNat) sa sl h11 (mkStr (if ps[i.toNat].2 = true then [46, 47] else [47])) K := by
          unfold bolelaw13_PathSlashes.k1
          refine ⟨ps[i.toNat].1, rda r10 rfl, ?_⟩
          have u1 : IntKind.wrap .u64 (sl : Int) = sl := Int.emod_eq_of_lt (a := (sl : Int)) (b := 18446744073709551616) (by omega) (by omega)
          rw [u1, if_neg (by omega)]
          have u2 : 0 ≤ IntKind.wrap .u64 ps[i.toNat].1 := Int.emod_nonneg (ps[i.toNat].1) (b := 18446744073709551616) (by decide)
          generalize IntKind.wrap .u64 ps[i.toNat].1 = q at u2
          have t1 := Int.tmod_nonneg (a := q) sl u2
          have t2 := Int.tmod_lt_of_pos q (b := (sl : Int)) (by omega)
          generalize Int.tmod q sl = m at t1 t2
          rw [wrap_i64 (n := m) (by omega) (by omega)]
          have hm : m.toNat < ns.length := by omega
          obtain ⟨q', rfl, cq⟩ := S.get spos
          have cm := cq m.toNat (.int .i64 ns[m.toNat]) (by rw [List.getElem?_map, List.getElem?_eq_getElem hm]; rfl)
          obtain ⟨p0, p1, p2⟩ := P _ (List.getElem_mem hm)
          refine ⟨⟨t1, t2⟩, os ⟨_, cm, ?_⟩⟩
          generalize ns[m.toNat] = n at p0 p1 p2
          have ln : (if ps[i.toNat].2 = true then ([46, 47] : List UInt8) else [47]).length = if ps[i.toNat].2 = true then 2 else 1 := by split <;> rfl
          have ln2 : (if ps[i.toNat].2 = true then 2 else 1) ≤ 2 := by split <;> omega
          rw [size_mk, size_mk, ln]
          rw [wrap_i64 (n := (s'.length : Int) + _) (by omega) (by omega), wrap_i64 (n := n + 1) (by omega) (by omega), wrap_i64 (n := i + 1) (by omega) (by omega)]
          refine cd (fun hgt => fin h11 FF) fun hgt => ?_
          have hn' : n.toNat < s'.length := by omega
          have hn'' : s'[n.toNat] = 47 := by rw [List.getElem?_eq_getElem hn'] at p2; exact Option.some.inj p2
          have es : s' = s'.take n.toNat ++ 47 :: s'.drop (n.toNat + 1) := by
            conv => lhs; rw [← List.take_append_drop n.toNat s', List.drop_eq_getElem_cons hn', hn'']
          have et : s'.take (n.toNat + 1) = s'.take n.toNat ++ [47] := by rw [List.take_succ_eq_append_getElem hn', hn'']
          have e1 : (n + 1).toNat = n.toNat + 1 := by omega
          rw [e1, extract_mk, extract_mk, List.drop_zero, Nat.sub_zero, mk_app, mk_app, size_mk, size_mk, size_mk]
          have ed : (s'.drop (n.toNat + 1)).take (s'.length - (n.toNat + 1)) = s'.drop (n.toNat + 1) := List.take_of_length_le (by rw [List.length_drop]; omega)
          rw [ed, et]
          have hM := M
          rw [es] at hM
          have M2 := hM.put ps[i.toNat].2 (by rw [← es]; omega)
          have eq1 : (List.take n.toNat s' ++ [47] ++ if ps[i.toNat].snd = true then [46, 47] else [47]) ++ List.drop (n.toNat + 1) s' = s'.take n.toNat ++ 47 :: ((if ps[i.toNat].2 = true then [46, 47] else [47]) ++ s'.drop (n.toNat + 1)) := by simp
          have l1' : (s'.take n.toNat).length ≤ s'.length := by rw [List.length_take]; omega
          have l2' : (s'.drop (n.toNat + 1)).length ≤ s'.length := by rw [List.length_drop]; omega
          refine ⟨⟨by omega, by omega⟩, ?_, ⟨by omega, by omega⟩, ?_, ⟨by omega, by omega, f8.no FF, _, rfl, ?_⟩, by show ((ps.length : Int) - (i + 1)).toNat < ((ps.length : Int) - i).toNat; omega⟩
          · rw [List.length_append, List.length_singleton]; omega
          · rw [List.length_append, List.length_append, List.length_singleton, ln]; omega
          · rw [eq1]; exact M2
        refine Hp.cs (fun hb => ?_) fun hb => ?_
        · rw [hb, if_pos rfl] at put; exact put
        · rw [hb, if_neg (by simp)] at put; exact put
  · have e1 : (parseA s true).1 = [] := by
      unfold parseA at h0 ⊢
      split
      · rfl
      · rename_i hw
        rw [if_neg hw] at h0
        cases hc : compA s with
        | none => rfl
        | some cs => rw [hc] at h0; exact absurd rfl h0
    have e2 : (parseA s true).2 = 1 ∨ (parseA s true).2 = 130 := by
      unfold parseA at h0 ⊢
      split
      · exact .inl rfl
      · rename_i hw
        rw [if_neg hw] at h0
        cases hc : compA s with
        | none => exact .inr rfl
        | some cs => rw [hc] at h0; exact absurd rfl h0
    rw [e1] at L
    obtain ⟨rfl, S⟩ := L
    have F := f2.no f3
    refine ct (bne_iff_ne.mpr h0) (ct rfl (num_step ?_))
    rcases e2 with e2 | e2
    · rw [e2]; exact ct rfl (hK h3 F)
    · rw [e2]; exact cf rfl (num_step (hK h3 F))
end Go.Proofs.Ytgpkcakanieodaa.Pa
