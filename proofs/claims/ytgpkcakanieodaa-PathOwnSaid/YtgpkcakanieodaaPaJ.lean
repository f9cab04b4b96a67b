/-
  PATHS: the reference's Make, Join, Clean, Name; PathExact.
-/
import Derived.Test.YtgpkcakanieodaaPaH
import Derived.Test.YtgpkcakanieodaaPaI
namespace Go.Proofs.Ytgpkcakanieodaa.Pa
open Go Go.Proofs Go.Proofs.Ytgpkcakanieodaa.Wx Go.Proofs.Ytgpkcakanieodaa.Hp Go.Proofs.Ytgpkcakanieodaa.W Go.Proofs.Ytgpkcakanieodaa.Sk Go.Proofs.Ytgpkcakanieodaa.Ch Go.Proofs.Ytgpkcakanieodaa.Rg

theorem one_el {l : List Txt} (h : l.length = 1) : l = [l[0]'(by omega)] := by
  match l, h with
  | [x], _ => rfl
theorem last_get {ps : List Txt} (h : 0 < ps.length) : ps[ps.length - 1]'(by omega) = ps.getLastD [] := by
  rw [List.getLastD_eq_getLast?, List.getLast?_eq_getElem?, List.getElem?_eq_getElem (by omega)]; rfl
theorem Make_rspec {s : Txt} {h : Heap} {K : Value → Heap → Prop} (hl : s.length ≤ 1099511627776) (hK : ∀ a l c h', Fr No h h' → Rd h' (makeA s).1 a l → K (.tuple #[.slice a l c, .string (mkStr (makeA s).2.1), .int .i64 (makeA s).2.2]) h') : C.boleref13_Make (mkStr s) h K := by
  refine boleref13_Make.ok (pieces_rspec hl fun a l c h2 f2 L => ⟨_, _, _, rfl, ?_⟩)
  have pc := pieces_count s
  have bad : isDots (lastP s) = true → K (.tuple #[.slice none 0 0, .string (mkStr []), .int .i64 1]) h2 := fun hd => by
    have e : makeA s = ([], [], 1) := by rw [makeA, if_pos hd]; split <;> rfl
    rw [e] at hK
    exact hK none 0 0 h2 f2 ⟨rfl, rfl⟩
  have good : isDots (lastP s) = false → boleref13_Make.k1 (mkStr s) h2 K := by
    intro hd
    unfold boleref13_Make.k1
    refine Parse_rspec hl fun a3 l3 c3 h3 f3 L3 => ⟨_, _, _, _, rfl, ?_⟩
    have em : makeA s = if (parseA s true).2 = 0 then (if (parseA s true).1 = [] then ([], [], 0) else ((parseA s true).1.dropLast, (parseA s true).1.getLastD [], 0)) else ([], [], (parseA s true).2) := by
      unfold makeA parseA
      split
      · rfl
      · rw [if_neg (by rw [hd]; simp)]
        cases compA s with
        | none => rfl
        | some cs => rfl
    rw [em] at hK
    refine cn (fun h0 => ?_) fun h0 => ?_
    · rw [if_neg h0] at hK
      exact hK none 0 0 h3 (f2.no f3) ⟨rfl, rfl⟩
    · rw [if_pos h0] at hK
      have T := taken_of h0
      generalize (parseA s true).1 = cs at T L3 hK
      have fl := T.is.2.2
      rw [fits, Bool.and_eq_true, decide_eq_true_eq] at fl
      obtain ⟨rfl, S⟩ := L3
      refine ce (fun hz => ?_) fun hz => ?_
      · have hz : cs = [] := List.eq_nil_of_length_eq_zero (by omega)
        rw [if_pos hz] at hK
        exact hK none 0 0 h3 (f2.no f3) ⟨rfl, rfl⟩
      · have hpos : 0 < cs.length := by omega
        rw [if_neg (fun e => by rw [e] at hpos; cases hpos)] at hK
        have hcap := S.le
        rw [wrap_i64 (n := (cs.length : Int) - 1) (by omega) (by omega), show ((cs.length : Int) - 1).toNat = cs.length - 1 by omega]
        obtain ⟨p, rfl, cl⟩ := strs_cell S.cells (i := cs.length - 1) (by omega)
        rw [last_get hpos] at cl
        refine ⟨⟨by omega, by omega⟩, ⟨by omega, by omega⟩, os ⟨_, cl, ?_⟩⟩
        refine hK (some p) _ c3 h3 (f2.no f3) ⟨?_, by rw [List.length_dropLast]⟩
        rw [List.dropLast_eq_take, ← strs_take]
        exact SlCells.take S.cells _
  obtain ⟨el, S⟩ := L
  have elast : lastP s = (pieces s).getLastD [] := rfl
  generalize pieces s = ps at el S pc elast
  subst el
  refine cd (fun hp => ?_) fun hp => ?_
  · have hpos : 0 < ps.length := by omega
    rw [wrap_i64 (n := (ps.length : Int) - 1) (by omega) (by omega), show ((ps.length : Int) - 1).toNat = ps.length - 1 by omega]
    obtain ⟨p, rfl, cl⟩ := strs_cell S.cells (i := ps.length - 1) (by omega)
    rw [last_get hpos, ← elast] at cl
    refine ⟨⟨by omega, by omega⟩, os ⟨_, cl, ?_⟩⟩
    rw [toList_mkStr, toList_mkStr]
    refine beq_txt (fun hd => bad (by rw [hd]; rfl)) fun hd => ⟨⟨by omega, by omega⟩, os ⟨_, cl, ?_⟩⟩
    rw [toList_mkStr, toList_mkStr]
    refine beq_txt (fun hd2 => bad (by rw [hd2]; rfl)) fun hd2 => good ?_
    unfold isDots
    rw [beq_eq_false_iff_ne.mpr hd, beq_eq_false_iff_ne.mpr hd2]; rfl
  · have : ps = [] := List.eq_nil_of_length_eq_zero (by omega)
    exact good (by rw [elast, this]; rfl)
theorem okPart_ref {p : Txt} (h1 : p ≠ [46]) (h2 : p.contains 0 = false) (h3 : pieces p = [p]) : okPart p = true := by
  obtain ⟨q, _⟩ := pieces_ok (s := p) (p := p) (by rw [h3]; exact List.mem_singleton.mpr rfl)
  refine okPart_iff.mpr ⟨q.1, h1, fun b hb => ⟨q.2 b hb, fun e => ?_⟩⟩
  rw [List.contains_iff_mem.mpr (e ▸ hb)] at h2; cases h2
theorem okPart_no {p : Txt} (h : p = [46] ∨ p.contains 0 = true ∨ pieces p ≠ [p]) : okPart p = false := by
  cases e : okPart p with
  | false => rfl
  | true =>
    obtain ⟨h1, h2, h3⟩ := okPart_iff.mp e
    rcases h with h | h | h
    · exact absurd h h2
    · exact absurd rfl ((h3 0 (List.contains_iff_mem.mp h)).2)
    · exact absurd (pieces_one h1 fun b hb => (h3 b hb).1) h
/-- are the pieces of p just p -/
theorem one_piece {p : Txt} {h : Heap} {no yes : Heap → Prop} (hl : p.length ≤ 1099511627776) (hn : pieces p ≠ [p] → ∀ h', Fr No h h' → no h') (hy : pieces p = [p] → ∀ h', Fr No h h' → yes h') :
    C.boleref13_pieces (mkStr p) h fun r2 h4 => ∃ (sA1 : Option Addr) (sL1 : Nat) (sC1 : Nat), r2 = .slice sA1 sL1 sC1 ∧ bif ((sL1 : Int) != 1) then no h4 else
      C.boleref13_pieces (mkStr p) h4 fun r3 h5 => ∃ (sA2 : Option Addr) (sL2 : Nat) (sC2 : Nat), r3 = .slice sA2 sL2 sC2 ∧ (0 ≤ (0 : Int) ∧ 0 < (sL2 : Int)) ∧ onSome sA2 fun p2 => ∃ (s2 : ByteArray), cellOf h5 (Addr.add p2 (Int.toNat 0)) = some (.string s2) ∧
        bif (!(s2.toList == (mkStr p).toList)) then no h5 else yes h5 := by
  refine pieces_rspec hl fun a l c h2 f2 L => ⟨_, _, _, rfl, ?_⟩
  obtain ⟨rfl, _⟩ := L
  refine cn (fun h1 => hn (fun e => h1 (by rw [e]; rfl)) h2 f2) fun h1 => ?_
  refine pieces_rspec hl fun a l c h3 f3 L => ⟨_, _, _, rfl, ?_⟩
  obtain ⟨rfl, S⟩ := L
  obtain ⟨q, rfl, cl⟩ := strs_cell S.cells (i := 0) (by omega)
  refine ⟨⟨by omega, by omega⟩, os ⟨_, cl, ?_⟩⟩
  rw [toList_mkStr, toList_mkStr]
  have e : pieces p = [(pieces p)[0]'(by omega)] := one_el (by omega)
  refine bne_txt (fun hne => hn (fun e2 => hne (by simp only [e2]; rfl)) h3 (f2.no f3)) fun he => hy ?_ h3 (f2.no f3)
  rw [he] at e; exact e
theorem Join_rspec {a : Option Addr} {l c : Nat} {ps : List Txt} {h : Heap} {K : Value → Heap → Prop} (B : SlCells h a (strs ps)) (hl : ps.length = l) (hn : l ≤ 1099511627776) (hp : ∀ p ∈ ps, p.length ≤ 1099511627776)
    (hK : ∀ h', Fr No h h' → K (.tuple #[.string (mkStr (joinA ps).1), .int .i64 (joinA ps).2]) h') : C.boleref13_Join a l c h K := by
  subst hl
  refine boleref13_Join.ok ⟨fun long n hh => 0 ≤ n ∧ n ≤ ps.length ∧ Fr No h hh ∧ (ps.take n.toNat).all okPart = true ∧ long = (decide (ps.length > 32) || (ps.take n.toNat).any fun p => decide (p.length > 27)), fun _ n _ => (ps.length - n).toNat,
    ⟨by omega, by omega, Fr.refl _ _, rfl, ?_⟩, ?_⟩
  · show _ = (_ || false)
    rw [Bool.or_false, Bool.eq_iff_iff, decide_eq_true_eq, decide_eq_true_eq]; omega
  rintro long n h2 ⟨n0, n1, f2, q, el⟩
  have B2 := SlCells.fr f2 B fun _ _ x => x
  refine cd (fun hi => ?_) fun hi => ?_
  · have hi' : n.toNat < ps.length := by omega
    obtain ⟨p, ea, cl⟩ := strs_cell B2 hi'
    subst ea
    have bad : okPart ps[n.toNat] = false → ∀ h', Fr No h h' → K (.tuple #[.string (mkStr []), .int .i64 1]) h' := fun e h' f => by
      have : joinA ps = ([], 1) := by
        rw [joinA, if_neg]
        intro ha
        have := List.all_eq_true.mp ha _ (List.getElem_mem hi')
        rw [e] at this; cases this
      have hK := hK h' f
      rw [this] at hK; exact hK
    have hpl := hp _ (List.getElem_mem hi')
    refine ⟨⟨n0, hi⟩, os ⟨_, cl, ?_⟩⟩
    rw [toList_mkStr, toList_mkStr]
    refine beq_txt (fun hd => bad (okPart_no (.inl hd)) h2 f2) fun hd => ?_
    refine zero_spec (by omega) ⟨_, rfl, Hp.cs (fun hz => bad (okPart_no (.inr (.inl hz))) h2 f2) fun hz => ?_⟩
    have := one_piece (p := ps[n.toNat]) (h := h2) (no := fun h' => K (.tuple #[.string (mkStr []), .int .i64 1]) h') (yes := fun h' => boleref13_Join.k1 long n h2 (fun long n hh => 0 ≤ n ∧ n ≤ ps.length ∧ Fr No h hh ∧ (ps.take n.toNat).all okPart = true ∧ long = (decide (ps.length > 32) || (ps.take n.toNat).any fun p => decide (p.length > 27))) (fun _ n _ => (ps.length - n).toNat) (mkStr ps[n.toNat]) h' K) hpl
      (fun hne h' f => bad (okPart_no (.inr (.inr hne))) h' (f2.no f)) fun he h' f => ?_
    · rw [toList_mkStr] at this; exact this
    have eo := okPart_ref hd hz he
    have q2 : (ps.take (n + 1).toNat).all okPart = true := by
      rw [show (n + 1).toNat = n.toNat + 1 by omega, List.take_succ_eq_append_getElem hi', List.all_append, q, List.all_cons, eo]; rfl
    have l2 : (ps.take (n + 1).toNat).any (fun p => decide (p.length > 27)) = ((ps.take n.toNat).any (fun p => decide (p.length > 27)) || decide ((ps[n.toNat]).length > 27)) := by
      rw [show (n + 1).toNat = n.toNat + 1 by omega, List.take_succ_eq_append_getElem hi', List.any_append, List.any_cons, List.any_nil, Bool.or_false]
    unfold boleref13_Join.k1
    rw [wrap_i64 (n := n + 1) (by omega) (by omega), size_mk]
    have me : ((ps.length : Int) - (n + 1)).toNat < ((ps.length : Int) - n).toNat := by omega
    cases long with
    | true => exact ⟨⟨by omega, by omega, f2.no f, q2, by rw [l2, ← Bool.or_assoc, ← el, Bool.true_or]⟩, me⟩
    | false =>
      refine ⟨⟨by omega, by omega, f2.no f, q2, ?_⟩, me⟩
      rw [l2, ← Bool.or_assoc, ← el, Bool.false_or, Bool.eq_iff_iff, decide_eq_true_eq, decide_eq_true_eq]; omega
  · rw [List.take_of_length_le (by omega)] at q el
    have eL : longB ps = long := el.symm
    cases long with
    | true =>
      have : joinA ps = ([], 130) := by rw [joinA, if_pos q, if_pos eL]
      have hK := hK h2 f2
      rw [this] at hK; exact hK
    | false =>
      rw [joinA_ok q eL] at hK
      have hf := short_iff.mp eL
      rw [fits, Bool.and_eq_true, decide_eq_true_eq, List.all_eq_true] at hf
      have slen := slashed_length ps fun p hp => by simpa using hf.1 p hp
      refine cf rfl ⟨fun x i hh => 0 ≤ i ∧ i ≤ ps.length ∧ h2 = hh ∧ x = mkStr (slashed (ps.take i.toNat)), fun _ i _ => (ps.length - i).toNat, ⟨by omega, by omega, rfl, rfl⟩, ?_⟩
      rintro _ i _ ⟨i0, i1, rfl, rfl⟩
      refine cd (fun hi => ?_) fun hi => ?_
      · have hi' : i.toNat < ps.length := by omega
        obtain ⟨p, ea, cl⟩ := strs_cell B2 hi'
        subst ea
        have e1 := slashed_take hi'
        have e2 := slashed_take_le ps (i.toNat + 1)
        refine ⟨⟨i0, hi⟩, os ⟨_, cl, ?_⟩⟩
        rw [mk_app, mk_app, size_mk, size_mk, size_mk, size_mk, wrap_i64 (n := i + 1) (by omega) (by omega)]
        refine ⟨?_, ?_, ⟨by omega, by omega, rfl, ?_⟩, by show ((ps.length : Int) - (i + 1)).toNat < ((ps.length : Int) - i).toNat; omega⟩
        · rw [List.length_singleton]; omega
        · rw [List.length_append, List.length_singleton]; omega
        · rw [show (i + 1).toNat = i.toNat + 1 by omega, List.take_succ_eq_append_getElem hi', slashed, slashed, List.flatMap_append, List.append_assoc]
          congr 2
          rw [List.flatMap_cons, List.flatMap_nil, List.append_nil]; rfl
      · rw [List.take_of_length_le (by omega), toList_mkStr, toList_mkStr]
        have hK := hK h2 f2
        unfold joinT at hK
        cases ps with
        | nil => exact ct rfl hK
        | cons x r => exact cf rfl hK
theorem Clean_rspec {s : Txt} {h : Heap} {K : Value → Heap → Prop} (hl : s.length ≤ 1099511627776) (hK : ∀ h', Fr No h h' → K (.tuple #[.string (mkStr (cleanA s).1), .int .i64 (cleanA s).2]) h') : C.boleref13_Clean (mkStr s) h K := by
  refine boleref13_Clean.ok (Parse_rspec hl fun a l c h2 f2 L => ⟨_, _, _, _, rfl, cn (fun hne => ?_) fun he => ?_⟩)
  · have e : cleanA s = ([], (parseA s true).2) := by rw [cleanA, if_neg hne]
    rw [e] at hK
    exact hK h2 f2
  · have e : cleanA s = joinA (cleanL (parseA s true).1) := by rw [cleanA, if_pos he]
    rw [e] at hK
    obtain ⟨fl, fp⟩ := parse_fits (s := s) (b := true)
    generalize (parseA s true).1 = cs at L fl fp hK
    obtain ⟨rfl, S⟩ := L
    refine ⟨fun a1 l1 c1 n hh => 0 ≤ n ∧ n ≤ cs.length ∧ Fr No h2 hh ∧ l1 = (cleanL (cs.take n.toNat)).length ∧ l1 ≤ n ∧ Sl hh 1 a1 l1 c1 (strs (cleanL (cs.take n.toNat))) (From h2.size), fun _ _ _ n _ => (cs.length - n).toNat,
      ⟨by omega, by omega, Fr.refl _ _, rfl, Int.le_refl _, Sl.nil _ _ _⟩, ?_⟩
    rintro a1 l1 c1 n h3 ⟨n0, n1, f3, e1, hl1, S1⟩
    refine cd (fun hi => ?_) fun hi => ?_
    · have hi' : n.toNat < cs.length := by omega
      obtain ⟨p, rfl, cl⟩ := strs_cell (SlCells.fr f3 S.cells fun _ _ x => x) hi'
      have et : cs.take (n + 1).toNat = cs.take n.toNat ++ [cs[n.toNat]] := by rw [show (n + 1).toNat = n.toNat + 1 by omega, List.take_succ_eq_append_getElem hi']
      have ec : cleanL (cs.take (n + 1).toNat) = cleanStep (cleanL (cs.take n.toNat)) cs[n.toNat] := by rw [et, cleanL, List.foldl_append]; rfl
      have me : ((cs.length : Int) - (n + 1)).toNat < ((cs.length : Int) - n).toNat := by omega
      refine ⟨⟨n0, hi⟩, os ⟨_, cl, ?_⟩⟩
      rw [toList_mkStr, toList_mkStr, wrap_i64 (n := n + 1) (by omega) (by omega)]
      refine bne_txt (fun hd => ?_) fun hd => ?_
      · have ecs : cleanL (cs.take (n + 1).toNat) = cleanL (cs.take n.toNat) ++ [cs[n.toNat]] := by rw [ec, cleanStep, if_neg hd]
        refine New.intro fun h6 n6 => ⟨strs [cs[n.toNat]], rfl, cellsAll n6.rd, strs_one _, ?_⟩
        have z6 := n6.size
        have z3 := f3.size
        refine append_own (S1.fr n6.fr fun _ _ _ x => x) rfl rfl (by have b16 : ti9.bytes ≤ 16 := (by decide); have := Nat.mul_le_mul (show l1 + 1 ≤ 40 from (by omega)) b16; exact Nat.le_trans this (by decide)) (by omega) fun a7 c7 h7 f7 S7 => ?_
        refine ⟨⟨by omega, by omega, (f3.new n6).trans f7 fun b hb x => by have x : h2.size ≤ b := x; omega, ?_, by omega, ?_⟩, me⟩
        · rw [ecs, List.length_append, List.length_singleton, ← e1]
        · rw [ecs]
          have S7 : Sl h7 1 a7 (l1 + 1) c7 (strs (cleanL (cs.take n.toNat) ++ [cs[n.toNat]])) (fun b => From h2.size b ∨ h6.size ≤ b) := by rw [strs, List.map_append]; exact S7
          exact S7.mono fun b hb => by
            rcases hb with hb | hb
            · exact hb
            · show h2.size ≤ b; omega
      · have ecs : cleanL (cs.take (n + 1).toNat) = (cleanL (cs.take n.toNat)).dropLast := by rw [ec, cleanStep, if_pos hd]
        have hc1 := S1.le
        refine cd (fun hp => ?_) fun hp => ?_
        · rw [wrap_i64 (n := (l1 : Int) - 1) (by omega) (by omega)]
          refine ⟨⟨by omega, by omega⟩, ⟨by omega, by omega, f3, ?_, ?_, ?_⟩, me⟩
          · rw [ecs, List.length_dropLast, ← e1]; omega
          · omega
          · rw [ecs, show ((l1 : Int) - 1).toNat = l1 - 1 by omega, List.dropLast_eq_take, ← e1, ← strs_take]
            exact sl_sub S1 (by omega) c1 (by omega) (Nat.le_refl _)
        · have z : cleanL (cs.take n.toNat) = [] := List.eq_nil_of_length_eq_zero (by omega)
          refine ⟨⟨by omega, by omega, f3, ?_, ?_, ?_⟩, me⟩
          · rw [ecs, z]; show l1 = 0; omega
          · omega
          · rw [ecs, z]; rw [z] at S1; exact S1
    · rw [List.take_of_length_le (by omega)] at e1 S1
      refine Join_rspec S1.cells e1.symm (by omega) (fun q hq => ?_) fun h8 f8 => ⟨_, _, rfl, hK h8 ((f2.no f3).no f8)⟩
      have := (fp q ((cleanL_sub cs).subset hq)).2
      omega
theorem Name_rspec {s : Txt} {h : Heap} {K : Value → Heap → Prop} (hl : s.length ≤ 1099511627776) (hK : ∀ h', Fr No h h' → K (.bool (nameOk s)) h') : C.boleref13_Name (mkStr s) h K := by
  refine boleref13_Name.ok ?_
  unfold boleref13_Name
  simp only [toList_mkStr, size_mk]
  have no : ∀ h', Fr No h h' → ¬ NameOk s → K (.bool false) h' := fun h' f hn => by
    have hK := hK h' f
    cases e : nameOk s with
    | false => rw [e] at hK; exact hK
    | true => exact absurd (nameOk_iff.mp e) hn
  refine bne_txt (fun h1 => ?_) fun h1 => no h (Fr.refl _ _) fun n => n.dot h1
  refine bne_txt (fun h2 => ?_) fun h2 => no h (Fr.refl _ _) fun n => n.dots h2
  refine cd (fun h3 => ?_) fun h3 => no h (Fr.refl _ _) fun n => h3 (by have := n.le; omega)
  refine zero_spec (by omega) ⟨_, rfl, ?_⟩
  cases hz : s.contains 0 with
  | true => exact no h (Fr.refl _ _) fun n => (n.all 0 (List.contains_iff_mem.mp hz)).2 rfl
  | false =>
    refine ct rfl (pieces_rspec hl fun a l c h4 f4 L => ⟨_, _, _, rfl, ?_⟩)
    obtain ⟨rfl, _⟩ := L
    have one : NameOk s → pieces s = [s] := fun n => pieces_one (fun e => by have := n.pos; rw [e] at this; exact absurd this (by decide)) fun b hb => (n.all b hb).1
    refine ce (fun h5 => ?_) fun h5 => no h4 f4 fun n => h5 (by rw [one n]; rfl)
    refine pieces_rspec hl fun a l c h6 f6 L => ⟨_, _, _, rfl, ?_⟩
    obtain ⟨rfl, S⟩ := L
    obtain ⟨q, rfl, cl⟩ := strs_cell S.cells (i := 0) (by omega)
    refine ⟨⟨by omega, by omega⟩, os ⟨_, cl, ?_⟩⟩
    rw [toList_mkStr]
    have e : pieces s = [(pieces s)[0]'(by omega)] := one_el (by omega)
    have hK := hK h6 (f4.no f6)
    have en : nameOk s = ((pieces s)[0]'(by omega) == s) := by
      rw [Bool.eq_iff_iff, beq_iff_eq, nameOk_iff]
      constructor
      · intro n
        have := one n
        simp only [this]; rfl
      · intro e2
        rw [e2] at e
        obtain ⟨p1, p2, p3⟩ := okPart_iff.mp (okPart_ref h1 hz e)
        exact ⟨by rcases s with _ | ⟨b, r⟩; exact absurd rfl p1; rw [List.length_cons]; omega, by omega, h1, h2, p3⟩
    rw [en] at hK; exact hK
theorem Make_short (s : Txt) : (makeA s).1.length ≤ 32 := by
  unfold makeA
  split
  · exact Nat.zero_le _
  · split
    · exact Nat.zero_le _
    · cases hc : compA s with
      | none => exact Nat.zero_le _
      | some cs =>
        dsimp only
        split
        · exact Nat.zero_le _
        · have : fits cs = true := by
            unfold compA at hc
            split at hc
            · split at hc
              · rename_i h; cases hc; exact h
              · cases hc
            · cases hc
          rw [fits, Bool.and_eq_true, decide_eq_true_eq] at this
          show cs.dropLast.length ≤ 32
          rw [List.length_dropLast]; omega
theorem PathExact_spec {s : Txt} {a : Option Addr} {l c : Nat} {ps : List Txt} {h : Heap} {K : Value → Heap → Prop} (hs : s.length ≤ 1048576) (B : SlCells h a (strs ps)) (hl : ps.length = l) (hn : l ≤ 1048576) (hc : l ≤ c) (hp : ∀ p ∈ ps, p.length ≤ 1048576)
    (hK : ∀ h', Fr No h h' → K (.bool true) h') : C.bolelaw13_PathExact (mkStr s) a l c h K := by
  refine bolelaw13_PathExact.ok (known_spec fun h2 f2 => ⟨_, rfl, cf rfl ?_⟩)
  have sp : ∀ b, (parseA s b).1.length ≤ 9223372036854775806 := fun b => Nat.le_trans (parse_fits (s := s) (b := b)).1 (by omega)
  refine Parse_spec (by omega) fun a1 l1 c1 h3 f3 L1 => ⟨_, _, _, _, rfl, Parse_rspec (by omega) fun a2 l2 c2 h4 f4 L2 => ⟨_, _, _, _, rfl, ?_⟩⟩
  refine Text_spec (by omega) fun a3 l3 c3 h5 f5 L3 => ⟨_, _, _, _, _, rfl, Text_rspec (by omega) fun a4 l4 c4 h6 f6 L4 => ⟨_, _, _, _, _, rfl, ?_⟩⟩
  refine same_rd (((L1.rd.no f4).no f5).no f6) ((L2.rd.no f5).no f6) (sp _) ⟨_, rfl, cf (by rw [decide_eq_true rfl]; rfl) (cf (by simp) ?_)⟩
  refine same_rd (L3.rd.no f6) L4.rd (sp _) ⟨_, rfl, cf (by rw [decide_eq_true rfl]; rfl) (cf (by simp) (cf (by simp) ?_))⟩
  unfold bolelaw13_PathExact.k1
  refine Make_spec (by omega) fun a5 l5 c5 h10 f10 L5 => ⟨_, _, _, _, _, rfl, Make_rspec (by omega) fun a6 l6 c6 h11 f11 L6 => ⟨_, _, _, _, _, rfl, ?_⟩⟩
  refine Clean_spec (by omega) fun h12 f12 => ⟨_, _, rfl, Clean_rspec (by omega) fun h13 f13 => ⟨_, _, rfl, ?_⟩⟩
  refine same_rd (((L5.rd.no f11).no f12).no f13) ((L6.no f12).no f13) (Nat.le_trans (Make_short s) (by omega)) ⟨_, rfl, cf (by rw [decide_eq_true rfl]; rfl) (cf (by simp) (cf (by simp) (cf (by simp) (cf (by simp) ?_))))⟩
  refine Name_spec fun h15 f15 => ⟨_, rfl, Name_rspec (by omega) fun h16 f16 => ⟨_, rfl, cf (by simp) ?_⟩⟩
  have F16 := (((((((((f2.no f3).no f4).no f5).no f6).no f10).no f11).no f12).no f13).no f15).no f16
  clear L1 L2 L3 L4 L5 L6
  unfold bolelaw13_PathExact.k2
  subst hl
  refine New.intro fun h18 n18 => ⟨strs ps, by rw [strs_length, Nat.mul_one], SlCells.fr (F16.new n18) B fun _ _ x => x, strs_one _, ?_⟩
  have z16 := F16.size
  have z18 := n18.size
  have S0 : Sl h18 1 (some ⟨h16.size, 0, none⟩) 0 0 [] (From h16.size) := Sl.made (zs := []) n18 rfl (Nat.le_refl _) rfl (Nat.le_refl _) rfl
  refine append_own S0 (by rw [strs_length]; exact (Nat.mul_one _).symm) rfl (by have b16 : ti9.bytes ≤ 16 := (by decide); have := Nat.mul_le_mul (show 0 + ps.length ≤ 1048577 from (by omega)) b16; exact Nat.le_trans this (by decide)) (by omega) fun a7 c7 h19 f19 S19 => ?_
  have z19 := f19.size
  have F19 : Fr No h h19 := (F16.new n18).trans f19 fun b hb x => by have x : h16.size ≤ b := x; omega
  refine New.intro fun h20 n20 => ⟨strs [[109, 97, 114, 107]], rfl, cellsAll n20.rd, strs_one _, ?_⟩
  have z20 := n20.size
  refine append_own (S19.fr n20.fr fun _ _ _ x => x) rfl rfl (by have b16 : ti9.bytes ≤ 16 := (by decide); have := Nat.mul_le_mul (show 0 + ps.length + 1 ≤ 1048577 from (by omega)) b16; exact Nat.le_trans this (by decide)) (by omega) fun a8 c8 h21 f21 S21 => ?_
  have z21 := f21.size
  have F21 : Fr No h h21 := (F19.new n20).trans f21 fun b hb x => by
    have x : h16.size ≤ b ∨ h18.size ≤ b := x
    omega
  have e8 : [] ++ strs ps ++ strs [[109, 97, 114, 107]] = strs (ps ++ [[109, 97, 114, 107]]) := by rw [strs, strs, strs, List.map_append]; rfl
  rw [e8] at S21
  have cap := S21.le
  have B21 : SlCells h21 a8 (strs ps) := by
    have := SlCells.take S21.cells ps.length
    rw [strs_take, List.take_left' rfl] at this
    exact this
  have tn : Int.toNat (ps.length : Int) = ps.length := Int.toNat_natCast _
  rw [tn]
  refine ⟨⟨by omega, by omega⟩, Join_pspec B21 rfl (by omega) (by omega) (fun p h => by have := hp p h; omega) fun h22 f22 => ⟨_, _, rfl, ?_⟩⟩
  have F22 := F21.no f22
  refine Join_rspec (SlCells.fr F22 B fun _ _ x => x) rfl (by omega) (fun p h => by have := hp p h; omega) fun h23 f23 => ⟨_, _, rfl, ?_⟩
  have F23 := F22.no f23
  refine ct (beq_self_eq_true _) (ct (beq_self_eq_true _) ⟨⟨by omega, by omega⟩, ?_⟩)
  refine same_spec (SlCells.fr (f22.no f23) B21 fun _ _ x => x) rfl (SlCells.fr F23 B fun _ _ x => x) rfl (by omega) ⟨_, rfl, ct (decide_eq_true rfl) ⟨⟨by omega, by omega⟩, ?_⟩⟩
  obtain ⟨p, rfl, cl⟩ := strs_cell (SlCells.fr (f22.no f23) S21.cells fun _ _ x => x) (i := ps.length) (by rw [List.length_append, List.length_singleton]; omega)
  refine os ⟨_, cl, ?_⟩
  have e9 : (ps ++ [[109, 97, 114, 107]])[ps.length]'(by rw [List.length_append, List.length_singleton]; omega) = [109, 97, 114, 107] := by
    rw [List.getElem_append_right (Nat.le_refl _)]; simp
  rw [e9, beq_self_eq_true]
  exact hK h23 F23
end Go.Proofs.Ytgpkcakanieodaa.Pa
