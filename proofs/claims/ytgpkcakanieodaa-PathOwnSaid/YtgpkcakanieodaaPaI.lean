/-
  PATHS: the reference's functions, and PathExact.
-/
import Derived.Test.YtgpkcakanieodaaPaG
namespace Go.Proofs.Ytgpkcakanieodaa.Pa
open Go Go.Proofs Go.Proofs.Ytgpkcakanieodaa.Wx Go.Proofs.Ytgpkcakanieodaa.Hp Go.Proofs.Ytgpkcakanieodaa.W Go.Proofs.Ytgpkcakanieodaa.Sk Go.Proofs.Ytgpkcakanieodaa.Ch Go.Proofs.Ytgpkcakanieodaa.Rg

theorem nat_byte' {b : UInt8} {k : Nat} (hk : k < 256) : (((UInt8.toNat b : Nat) : Int) = (k : Int)) ↔ b = UInt8.ofNat k := by
  constructor
  · intro h
    apply UInt8.toNat_inj.mp
    rw [UInt8.toNat_ofNat']; omega
  · intro h; rw [h, UInt8.toNat_ofNat']; omega
theorem zero_spec {s : Txt} {h : Heap} {K : Value → Heap → Prop} (hl : s.length ≤ 9223372036854775806) (hK : K (.bool (s.contains 0)) h) : C.boleref13_zero (mkStr s) h K := by
  refine boleref13_zero.ok ⟨fun i hh => 0 ≤ i ∧ i ≤ s.length ∧ h = hh ∧ (s.take i.toNat).contains 0 = false, fun i _ => (s.length - i).toNat, ⟨by omega, by omega, rfl, rfl⟩, ?_⟩
  rintro i _ ⟨i0, i1, rfl, e⟩
  rw [size_mk, toList_mkStr]
  refine cd (fun hi => ?_) fun hi => ?_
  · have hi' : i.toNat < s.length := by omega
    have et : s.take (i.toNat + 1) = s.take i.toNat ++ [s[i.toNat]] := List.take_succ_eq_append_getElem hi'
    refine ⟨⟨i0, hi⟩, _, List.getElem?_eq_getElem hi', ce (fun hb => ?_) fun hb => ?_⟩
    · have hb : s[i.toNat] = 0 := (nat_byte' (k := 0) (by decide)).mp hb
      have : s.contains 0 = true := List.contains_iff_mem.mpr (hb ▸ List.getElem_mem hi')
      rw [this] at hK; exact hK
    · rw [wrap_i64 (by omega) (by omega)]
      refine ⟨⟨by omega, by omega, rfl, ?_⟩, by show ((s.length : Int) - (i + 1)).toNat < ((s.length : Int) - i).toNat; omega⟩
      rw [show (i + 1).toNat = i.toNat + 1 by omega, et]
      have : ¬ (0 ∈ s.take i.toNat ++ [s[i.toNat]]) := fun x => by
        rcases List.mem_append.mp x with x | x
        · rw [List.contains_iff_mem.mpr x] at e; cases e
        · exact hb ((nat_byte' (k := 0) (by decide)).mpr (List.mem_singleton.mp x).symm)
      cases hc : (s.take i.toNat ++ [s[i.toNat]]).contains 0 with
      | false => rfl
      | true => exact absurd (List.contains_iff_mem.mp hc) this
  · rw [List.take_of_length_le (by omega)] at e
    rw [e] at hK; exact hK
theorem piecesGo_count : ∀ (r cur : Txt), (piecesGo r cur).length ≤ r.length + 1
  | [], cur => by unfold piecesGo; split <;> simp
  | b :: r, cur => by
    unfold piecesGo
    split
    · have := piecesGo_count r []
      rw [List.length_append, List.length_cons]
      split
      · rw [List.length_nil]; omega
      · rw [List.length_singleton]; omega
    · have := piecesGo_count r (cur ++ [b])
      rw [List.length_cons]; omega
theorem pieces_count (s : Txt) : (pieces s).length ≤ s.length + 1 := piecesGo_count s []
theorem pieces_rspec {s : Txt} {h : Heap} {K : Value → Heap → Prop} (hl : s.length ≤ 1099511627776) (hK : ∀ a l c h', Fr No h h' → Ls h h' (pieces s) a l c → K (.slice a l c) h') : C.boleref13_pieces (mkStr s) h K := by
  refine boleref13_pieces.ok ⟨fun a l c f i hh => 0 ≤ f ∧ f ≤ i ∧ i ≤ s.length + 1 ∧ Fr No h hh ∧ ∃ ps : List Txt, Ls h hh ps a l c ∧ (i ≤ s.length → pieces s = ps ++ piecesGo (s.drop i.toNat) ((s.drop f.toNat).take (i.toNat - f.toNat))) ∧ (s.length < i → pieces s = ps), fun _ _ _ _ i _ => (s.length + 1 - i).toNat,
    ⟨by omega, by omega, by omega, Fr.refl _ _, [], ls_nil _ _, fun _ => rfl, fun x => by omega⟩, ?_⟩
  rintro a l c f i h2 ⟨f0, fi, i1, f2, ps, L, e1, e2⟩
  rw [size_mk, toList_mkStr]
  have pc := pieces_count s
  have hw : IntKind.wrap .i64 (i + 1) = i + 1 := wrap_i64 (by omega) (by omega)
  refine cd (fun hi => ?_) fun hi => ?_
  · have e1 := e1 hi
    have me : ((s.length : Int) + 1 - (i + 1)).toNat < ((s.length : Int) + 1 - i).toNat := by omega
    generalize hcur : (s.drop f.toNat).take (i.toNat - f.toNat) = cur at e1
    have hcl : cur.length = (i - f).toNat := by rw [← hcur, List.length_take, List.length_drop]; omega
    -- a slash, or the end
    have cut : (i < s.length → s[i.toNat]? = some 47) → boleref13_pieces.k1 (mkStr s) a l c f i h2 (fun a l c f i hh => 0 ≤ f ∧ f ≤ i ∧ i ≤ s.length + 1 ∧ Fr No h hh ∧ ∃ ps : List Txt, Ls h hh ps a l c ∧ (i ≤ s.length → pieces s = ps ++ piecesGo (s.drop i.toNat) ((s.drop f.toNat).take (i.toNat - f.toNat))) ∧ (s.length < i → pieces s = ps)) (fun _ _ _ _ i _ => (s.length + 1 - i).toNat) K := by
      intro hs
      have nx : ∀ qs, qs = ps ++ (if cur = [] then [] else [cur]) → (i + 1 ≤ s.length → pieces s = qs ++ piecesGo (s.drop (i + 1).toNat) ((s.drop (i + 1).toNat).take ((i + 1).toNat - (i + 1).toNat))) ∧ (s.length < i + 1 → pieces s = qs) := by
        rintro qs rfl
        refine ⟨fun hlt => ?_, fun hge => ?_⟩
        · have hi' : i.toNat < s.length := by omega
          have h47 := hs (by omega)
          rw [List.getElem?_eq_getElem hi'] at h47
          rw [Nat.sub_self, List.take_zero, e1, List.drop_eq_getElem_cons hi', Option.some.inj h47, show (i + 1).toNat = i.toNat + 1 by omega]
          show ps ++ (if (47 : UInt8) = 47 then _ else _) = _
          rw [if_pos rfl, List.append_assoc]
        · rw [e1, List.drop_of_length_le (by omega)]; rfl
      unfold boleref13_pieces.k1
      rw [hw]
      refine cd (fun hgt => ?_) fun hgt => ?_
      · have hne : cur ≠ [] := fun e => by rw [e, List.length_nil] at hcl; omega
        rw [size_mk, extract_mk, hcur]
        refine ⟨⟨f0, fi, hi⟩, New.intro fun h3 n3 => ⟨strs [cur], rfl, cellsAll n3.rd, strs_one _, ?_⟩⟩
        obtain ⟨rfl, S⟩ := L
        have z2 := f2.size
        have z3 := n3.size
        have pl : ps.length ≤ (pieces s).length := by rw [e1, List.length_append]; omega
        refine append_own (S.fr n3.fr fun _ _ _ x => x) rfl rfl (by have b16 : ti9.bytes ≤ 16 := (by decide); have := Nat.mul_le_mul (show ps.length + 1 ≤ 1099511627778 from (by omega)) b16; exact Nat.le_trans this (by decide)) (by omega) fun a' c' h4 f4 S4 => ?_
        have q := nx (ps ++ [cur]) (by rw [if_neg hne])
        refine ⟨⟨by omega, by omega, by omega, (f2.new n3).trans f4 fun b hb x => by have x : h.size ≤ b := x; omega, ps ++ [cur], ⟨by rw [List.length_append, List.length_singleton], ?_⟩, q.1, q.2⟩, me⟩
        have S4 : Sl h4 1 a' (ps.length + 1) c' (strs (ps ++ [cur])) (fun b => From h.size b ∨ h3.size ≤ b) := by rw [strs, List.map_append]; exact S4
        exact S4.mono fun b hb => by
          rcases hb with hb | hb
          · exact hb
          · show h.size ≤ b; omega
      · have he : cur = [] := List.eq_nil_of_length_eq_zero (by omega)
        have q := nx ps (by rw [if_pos he, List.append_nil])
        exact ⟨⟨by omega, by omega, by omega, f2, ps, L, q.1, q.2⟩, me⟩
    refine cd (fun hlt => ?_) fun hge => cut fun x => absurd x hge
    have hi' : i.toNat < s.length := by omega
    refine ⟨⟨by omega, hlt⟩, _, List.getElem?_eq_getElem hi', cn (fun hb => ?_) fun hb => cut fun _ => ?_⟩
    · have hb : s[i.toNat] ≠ 47 := fun e => hb ((nat_byte' (k := 47) (by decide)).mpr e)
      rw [hw]
      refine ⟨⟨by omega, by omega, by omega, f2, ps, L, fun _ => ?_, fun x => by omega⟩, me⟩
      rw [e1, List.drop_eq_getElem_cons hi', show (i + 1).toNat = i.toNat + 1 by omega, show i.toNat + 1 - f.toNat = (i.toNat - f.toNat) + 1 by omega, List.take_succ_eq_append_getElem (by rw [List.length_drop]; omega), hcur, List.getElem_drop]
      show ps ++ (if s[i.toNat] = 47 then _ else _) = _
      rw [if_neg hb]
      simp only [show f.toNat + (i.toNat - f.toNat) = i.toNat by omega]
    · rw [List.getElem?_eq_getElem hi', (nat_byte' (k := 47) (by decide)).mp hb]; rfl
  · rw [e2 (by omega)] at hK
    exact hK a l c h2 f2 L
/-- no part is too long -/
def allShort (cs : List Txt) : Bool := cs.all fun p => decide (p.length ≤ 27)
theorem components_rspec {s : Txt} {h : Heap} {K : Value → Heap → Prop} (hl : s.length ≤ 1099511627776) (h1 : allShort (comps s) = false → ∀ h', Fr No h h' → K (.tuple #[.slice none 0 0, .bool false]) h')
    (h2 : allShort (comps s) = true → ∀ a l c h', Fr No h h' → Ls h h' (comps s) a l c → K (.tuple #[.slice a l c, .bool (decide ((comps s).length ≤ 32))]) h') : C.boleref13_components (mkStr s) h K := by
  refine boleref13_components.ok (pieces_rspec hl fun a l c h3 f3 L => ⟨_, _, _, rfl, ?_⟩)
  have pc := pieces_count s
  have hcs : comps s = noDot (pieces s) := rfl
  generalize pieces s = ps at L pc hcs
  obtain ⟨rfl, S⟩ := L
  refine ⟨fun a1 l1 c1 n hh => 0 ≤ n ∧ n ≤ ps.length ∧ Fr No h3 hh ∧ l1 = (noDot (ps.take n.toNat)).length ∧ allShort (noDot (ps.take n.toNat)) = true ∧ Sl hh 1 a1 l1 c1 (strs (noDot (ps.take n.toNat))) (From h3.size), fun _ _ _ n _ => (ps.length - n).toNat,
    ⟨by omega, by omega, Fr.refl _ _, rfl, rfl, Sl.nil _ _ _⟩, ?_⟩
  rintro a1 l1 c1 n h4 ⟨n0, n1, f4, el, sh, S1⟩
  refine cd (fun hi => ?_) fun hi => ?_
  · have hi' : n.toNat < ps.length := by omega
    obtain ⟨p, rfl, cl⟩ := strs_cell (SlCells.fr f4 S.cells fun _ _ x => x) hi'
    have me : ((ps.length : Int) - (n + 1)).toNat < ((ps.length : Int) - n).toNat := by omega
    have en : noDot (ps.take (n + 1).toNat) = if ps[n.toNat] = [46] then noDot (ps.take n.toNat) else noDot (ps.take n.toNat) ++ [ps[n.toNat]] := by
      rw [show (n + 1).toNat = n.toNat + 1 by omega, List.take_succ_eq_append_getElem hi', noDot_append]
    have cnt : (noDot (ps.take n.toNat)).length ≤ n.toNat := by
      refine Nat.le_trans (List.length_filter_le _ _) ?_
      rw [List.length_take]; omega
    refine ⟨⟨n0, hi⟩, os ⟨_, cl, ?_⟩⟩
    rw [toList_mkStr, toList_mkStr, size_mk, wrap_i64 (n := n + 1) (by omega) (by omega)]
    refine beq_txt (fun hd => ?_) fun hd => ?_
    · rw [if_pos hd] at en
      exact ⟨⟨by omega, by omega, f4, by rw [en]; exact el, by rw [en]; exact sh, by rw [en]; exact S1⟩, me⟩
    · rw [if_neg hd] at en
      refine cd (fun hg => ?_) fun hg => ?_
      · refine h1 ?_ h4 (f3.no f4)
        rw [hcs, allShort, List.all_eq_false]
        exact ⟨ps[n.toNat], List.mem_filter.mpr ⟨List.getElem_mem hi', by simp [hd]⟩, by simp; omega⟩
      · have z3 := f3.size
        have z4 := f4.size
        refine New.intro fun h5 n5 => ⟨strs [ps[n.toNat]], rfl, cellsAll n5.rd, strs_one _, ?_⟩
        have z5 := n5.size
        refine append_own (S1.fr n5.fr fun _ _ _ x => x) rfl rfl (by have b16 : ti9.bytes ≤ 16 := (by decide); have := Nat.mul_le_mul (show l1 + 1 ≤ 1099511627778 from (by omega)) b16; exact Nat.le_trans this (by decide)) (by omega) fun a' c' h6 f6 S6 => ?_
        refine ⟨⟨by omega, by omega, (f4.new n5).trans f6 fun b hb x => by have x : h3.size ≤ b := x; omega, ?_, ?_, ?_⟩, me⟩
        · rw [en, List.length_append, List.length_singleton, ← el]
        · rw [en]
          rw [allShort] at sh ⊢
          rw [List.all_append, sh, List.all_cons, decide_eq_true (by omega)]; rfl
        · rw [en]
          have S6 : Sl h6 1 a' (l1 + 1) c' (strs (noDot (ps.take n.toNat) ++ [ps[n.toNat]])) (fun b => From h3.size b ∨ h5.size ≤ b) := by rw [strs, List.map_append]; exact S6
          exact S6.mono fun b hb => by
            rcases hb with hb | hb
            · exact hb
            · show h3.size ≤ b; omega
  · rw [List.take_of_length_le (by omega)] at el sh S1
    rw [hcs] at h2
    have z3 := f3.size
    have := h2 sh a1 l1 c1 h4 (f3.no f4) ⟨el, S1.mono fun b hb => by have hb : h3.size ≤ b := hb; show h.size ≤ b; omega⟩
    rw [el]
    have e : decide (((noDot ps).length : Int) ≤ 32) = decide ((noDot ps).length ≤ 32) := by
      rw [Bool.eq_iff_iff, decide_eq_true_eq, decide_eq_true_eq]; omega
    rw [e]
    rw [el] at this
    exact this
/-- the same answer, told in the reference's order -/
theorem compA_short {s : Txt} (h : allShort (comps s) = false) : compA s = none := by
  have : fits (comps s) = false := by
    unfold fits
    unfold allShort at h
    rw [h]; rfl
  unfold compA
  rw [this]
  split <;> rfl
theorem compA_many {s : Txt} (h : ¬ (comps s).length ≤ 32) : compA s = none := by
  have : fits (comps s) = false := by
    unfold fits
    rw [decide_eq_false h, Bool.and_false]
  unfold compA
  rw [this]
  split <;> rfl
theorem components_use {s : Txt} {h : Heap} {K : Value → Heap → Prop} {k : Option Addr → Nat → Nat → Heap → Prop} (hl : s.length ≤ 1099511627776) (hno : compA s = none → ∀ h', Fr No h h' → K (.tuple #[.slice none 0 0, .int .i64 130]) h')
    (hk : ∀ cs, compA s = some cs → ∀ a l c h', Fr No h h' → Ls h h' cs a l c → k a l c h')
    {no : Heap → Prop} (hn : ∀ h', K (.tuple #[.slice none 0 0, .int .i64 130]) h' → no h') :
    C.boleref13_components (mkStr s) h fun r2 h4 => ∃ (sA1 : Option Addr) (sL1 : Nat) (sC1 : Nat) (b3 : Bool), r2 = .tuple #[.slice sA1 sL1 sC1, .bool b3] ∧ bif (!b3) then no h4 else bif (decide (((mkStr s).size : Int) > 1024)) then no h4 else k sA1 sL1 sC1 h4 := by
  refine components_rspec hl (fun hs h' f => ⟨_, _, _, _, rfl, ct rfl (hn _ (hno (compA_short hs) h' f))⟩) fun hs a l c h' f L => ⟨_, _, _, _, rfl, ?_⟩
  by_cases hm : (comps s).length ≤ 32
  · rw [decide_eq_true hm]
    rw [size_mk]
    refine cf rfl (cd (fun hg => hn _ (hno ?_ h' f)) fun hg => hk (comps s) ?_ a l c h' f L)
    · unfold compA; rw [if_neg (by omega)]
    · have : fits (comps s) = true := by unfold fits; rw [decide_eq_true hm]; unfold allShort at hs; rw [hs]; rfl
      unfold compA; rw [if_pos (by omega), if_pos this]
  · rw [decide_eq_false hm]
    exact ct rfl (hn _ (hno (compA_many hm) h' f))
theorem Parse_rspec {s : Txt} {h : Heap} {K : Value → Heap → Prop} (hl : s.length ≤ 1099511627776) (hK : ∀ a l c h', Fr No h h' → Ls h h' (parseA s true).1 a l c → K (.tuple #[.slice a l c, .int .i64 (parseA s true).2]) h') : C.boleref13_Parse (mkStr s) h K := by
  refine boleref13_Parse.ok ?_
  unfold boleref13_Parse
  rw [toList_mkStr, toList_mkStr, size_mk]
  have bad : wrongB s true = true → ∀ h', Fr No h h' → K (.tuple #[.slice none 0 0, .int .i64 1]) h' := fun hw h' f => by
    have e : parseA s true = ([], 1) := by rw [parseA, if_pos hw]
    rw [e] at hK
    exact hK none 0 0 h' f (ls_nil _ _)
  refine beq_txt (fun h0 => bad (by rw [h0]; rfl) h (Fr.refl _ _)) fun h0 => ?_
  cases s with
  | nil => exact absurd rfl h0
  | cons b r =>
    refine ⟨⟨by omega, by rw [List.length_cons]; omega⟩, b, rfl, cn (fun hb => bad ?_ h (Fr.refl _ _)) fun hb => ?_⟩
    · have : ((b :: r).head? == some 47) = false := beq_eq_false_iff_ne.mpr fun e => hb ((nat_byte' (k := 47) (by decide)).mpr (Option.some.inj e))
      unfold wrongB; rw [this]; simp
    · have hb : b = 47 := (nat_byte' (k := 47) (by decide)).mp hb
      subst hb
      refine zero_spec (by omega) ⟨_, rfl, Hp.cs (fun hz => bad ?_ h (Fr.refl _ _)) fun hz => ?_⟩
      · unfold wrongB; rw [hz]; simp
      · have hw : wrongB (47 :: r) true = false := by unfold wrongB; rw [hz]; rfl
        unfold boleref13_Parse.k1
        refine components_use hl (fun hc h' f => ?_) (fun cs hc a l c h' f L => ?_) fun h' x => x
        · have e : parseA (47 :: r) true = ([], 130) := by rw [parseA, if_neg (by rw [hw]; simp), hc]
          rw [e] at hK
          exact hK none 0 0 h' f (ls_nil _ _)
        · have e : parseA (47 :: r) true = (cs, 0) := by rw [parseA, if_neg (by rw [hw]; simp), hc]
          rw [e] at hK
          exact hK a l c h' f L
theorem Text_rspec {s : Txt} {h : Heap} {K : Value → Heap → Prop} (hl : s.length ≤ 1099511627776) (hK : ∀ a l c h', Fr No h h' → Ls h h' (parseA s false).1 a l c →
    K (.tuple #[.slice a l c, .bool (decide ((parseA s false).2 = 0) && s.head? == some 47), .int .i64 (parseA s false).2]) h') : C.boleref13_Text (mkStr s) h K := by
  refine boleref13_Text.ok ?_
  unfold boleref13_Text
  rw [toList_mkStr, toList_mkStr]
  have bad : wrongB s false = true → ∀ h', Fr No h h' → K (.tuple #[.slice none 0 0, .bool false, .int .i64 1]) h' := fun hw h' f => by
    have e : parseA s false = ([], 1) := by rw [parseA, if_pos hw]
    rw [e] at hK
    exact hK none 0 0 h' f (ls_nil _ _)
  refine beq_txt (fun h0 => bad (by rw [h0]; rfl) h (Fr.refl _ _)) fun h0 => ?_
  refine zero_spec (by omega) ⟨_, rfl, Hp.cs (fun hz => bad ?_ h (Fr.refl _ _)) fun hz => ?_⟩
  · unfold wrongB; rw [hz]; simp
  · have hw : wrongB s false = false := by unfold wrongB; rw [hz, beq_eq_false_iff_ne.mpr h0]; rfl
    unfold boleref13_Text.k1
    have no : compA s = none → ∀ h', Fr No h h' → K (.tuple #[.slice none 0 0, .bool false, .int .i64 130]) h' := fun hc h' f => by
      have e : parseA s false = ([], 130) := by rw [parseA, if_neg (by rw [hw]; simp), hc]
      rw [e] at hK
      exact hK none 0 0 h' f (ls_nil _ _)
    refine components_use (K := fun _ h' => K (.tuple #[.slice none 0 0, .bool false, .int .i64 130]) h') hl no (fun cs hc a l c h' f L => ?_) fun h' x => x
    have e : parseA s false = (cs, 0) := by rw [parseA, if_neg (by rw [hw]; simp), hc]
    rw [e] at hK
    unfold boleref13_Text.k2
    cases s with
    | nil => exact absurd rfl h0
    | cons b r =>
      refine ⟨⟨by decide, by rw [size_mk]; show (0 : Int) < ((r.length + 1 : Nat) : Int); omega⟩, b, by rw [toList_mkStr]; rfl, ?_⟩
      have e2 : (((UInt8.toNat b : Nat) : Int) == 47) = (decide ((cs, (0 : Int)).2 = 0) && (b :: r).head? == some 47) := by
        show _ = (some b == some 47)
        rw [Bool.eq_iff_iff, beq_iff_eq, beq_iff_eq]
        constructor
        · intro h; exact congrArg some ((nat_byte' (k := 47) (by decide)).mp h)
        · intro h; rw [Option.some.inj h]; rfl
      rw [e2]
      exact hK a l c h' f L
end Go.Proofs.Ytgpkcakanieodaa.Pa
