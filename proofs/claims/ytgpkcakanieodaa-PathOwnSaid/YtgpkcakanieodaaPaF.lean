/-
  PATHS: the walks of same, known and PathCleans.
-/
import Derived.Test.YtgpkcakanieodaaPaE
namespace Go.Proofs.Ytgpkcakanieodaa.Pa
open Go Go.Proofs Go.Proofs.Ytgpkcakanieodaa.Wx Go.Proofs.Ytgpkcakanieodaa.Hp Go.Proofs.Ytgpkcakanieodaa.W Go.Proofs.Ytgpkcakanieodaa.Sk Go.Proofs.Ytgpkcakanieodaa.Ch Go.Proofs.Ytgpkcakanieodaa.Rg

theorem bne_txt {x y : Txt} {A B : Prop} (a : x ≠ y → A) (b : x = y → B) : bif !(x == y) then A else B := by
  by_cases h : x = y
  · exact cf (by rw [h, beq_self_eq_true]; rfl) (b h)
  · exact ct (by rw [beq_eq_false_iff_ne.mpr h]; rfl) (a h)
theorem beq_txt {x y : Txt} {A B : Prop} (a : x = y → A) (b : x ≠ y → B) : bif x == y then A else B := by
  by_cases h : x = y
  · exact ct (by rw [h, beq_self_eq_true]) (a h)
  · exact cf (by rw [beq_eq_false_iff_ne.mpr h]) (b h)
theorem same_spec {a b : Option Addr} {l m c d : Nat} {ps qs : List Txt} {h : Heap} {K : Value → Heap → Prop} (A : SlCells h a (strs ps)) (ha : ps.length = l) (B : SlCells h b (strs qs)) (hb : qs.length = m) (hl : l ≤ 9223372036854775806)
    (hK : K (.bool (decide (ps = qs))) h) : C.bolelaw13_same a l c b m d h K := by
  subst ha
  subst hb
  refine bolelaw13_same.ok (cn (fun hne => ?_) fun he => ?_)
  · rw [decide_eq_false (fun e => hne (by rw [e]))] at hK; exact hK
  · refine ⟨fun n hh => 0 ≤ n ∧ n ≤ ps.length ∧ h = hh ∧ ps.take n.toNat = qs.take n.toNat, fun n _ => (ps.length - n).toNat, ⟨by omega, by omega, rfl, rfl⟩, ?_⟩
    rintro n _ ⟨n0, n1, rfl, e⟩
    refine cd (fun hi => ?_) fun hi => ?_
    · have h1 : n.toNat < ps.length := by omega
      have h2 : n.toNat < qs.length := by omega
      obtain ⟨p, rfl, cl⟩ := strs_cell A h1
      obtain ⟨q, rfl, cl2⟩ := strs_cell B h2
      refine ⟨⟨n0, hi⟩, os ⟨_, cl, ⟨n0, by omega⟩, os ⟨_, cl2, ?_⟩⟩⟩
      rw [toList_mkStr, toList_mkStr]
      refine bne_txt (fun hne => ?_) fun he2 => ?_
      · rw [decide_eq_false (fun e => hne (by simp only [e]))] at hK; exact hK
      · rw [wrap_i64 (by omega) (by omega)]
        refine ⟨⟨by omega, by omega, rfl, ?_⟩, by show ((ps.length : Int) - (n + 1)).toNat < ((ps.length : Int) - n).toNat; omega⟩
        rw [show (n + 1).toNat = n.toNat + 1 by omega, List.take_succ_eq_append_getElem h1, List.take_succ_eq_append_getElem h2, e, he2]
    · rw [List.take_of_length_le (by omega), List.take_of_length_le (by omega)] at e
      rw [decide_eq_true e] at hK; exact hK
theorem Ls.cells {h0 h : Heap} {ps : List Txt} {a : Option Addr} {l c : Nat} (L : Ls h0 h ps a l c) : SlCells h a (strs ps) := L.2.cells
/-- a list of texts that was answered, read later -/
structure Rd (h : Heap) (ps : List Txt) (a : Option Addr) (l : Nat) : Prop where
  c : SlCells h a (strs ps)
  l : ps.length = l
theorem Ls.rd {h0 h : Heap} {ps : List Txt} {a : Option Addr} {l c : Nat} (L : Ls h0 h ps a l c) : Rd h ps a l := ⟨L.2.cells, L.1.symm⟩
theorem Rd.no {h h' : Heap} {ps : List Txt} {a : Option Addr} {l : Nat} (r : Rd h ps a l) (f : Fr No h h') : Rd h' ps a l := ⟨SlCells.fr f r.c fun _ _ x => x, r.l⟩
theorem rd_new {h h' : Heap} {ps : List Txt} (n : Newly h h' (strs ps)) : Rd h' ps (some ⟨h.size, 0, none⟩) ps.length := ⟨cellsAll n.rd, rfl⟩
theorem same_rd {a b : Option Addr} {l m c d : Nat} {ps qs : List Txt} {h : Heap} {K : Value → Heap → Prop} (A : Rd h ps a l) (B : Rd h qs b m) (hl : ps.length ≤ 9223372036854775806) (hK : K (.bool (decide (ps = qs))) h) : C.bolelaw13_same a l c b m d h K :=
  same_spec A.c A.l B.c B.l (by rw [← A.l]; exact hl) hK
theorem num_spec {e : Int} {h : Heap} {K : Value → Heap → Prop} (hK : ∃ n : Int, Value.int .i64 e = .int .i64 n ∧ K (.int .i64 n) h) : C.bolelaw13_num e h K := by
  obtain ⟨n, e1, k⟩ := hK
  cases e1
  exact bolelaw13_num.ok k
theorem num_step {e : Int} {h : Heap} {K : Int → Heap → Prop} (hK : K e h) : C.bolelaw13_num e h fun r h' => ∃ n : Int, r = .int .i64 n ∧ K n h' := bolelaw13_num.ok ⟨_, rfl, hK⟩
theorem known_spec {h : Heap} {K : Value → Heap → Prop} (hK : ∀ h', Fr No h h' → K (.bool true) h') : C.bolelaw13_known h K := by
  refine bolelaw13_known.ok ?_
  refine Parse_spec (by show (12 : Nat) ≤ _; omega) fun a1 l1 c1 h2 f2 L1 => ⟨_, _, _, _, rfl, ?_⟩
  refine Text_spec (by show (6 : Nat) ≤ _; omega) fun a2 l2 c2 h3 f3 L2 => ⟨_, _, _, _, _, rfl, ?_⟩
  refine Make_spec (by show (6 : Nat) ≤ _; omega) fun a3 l3 c3 h4 f4 L3 => ⟨_, _, _, _, _, rfl, ?_⟩
  refine New.intro fun h5 n5 => ?_
  have r5 : Rd h5 [[97], [46, 46]] (some ⟨h4.size, 0, none⟩) 2 := rd_new (ps := [[97], [46, 46]]) n5
  refine Join_pspec r5.c r5.l (Nat.le_refl _) (by omega) (fun p hp => ?_) fun h6 f6 => ⟨_, _, rfl, ?_⟩
  · rcases List.mem_cons.mp hp with rfl | hp
    · show (1 : Nat) ≤ _; omega
    · rw [List.mem_singleton.mp hp]; show (2 : Nat) ≤ _; omega
  refine Clean_spec (by show (15 : Nat) ≤ _; omega) fun h7 f7 => ⟨_, _, rfl, ?_⟩
  refine New.intro fun h8 n8 => ?_
  have e1 : parseA [47, 47, 97, 47, 46, 47, 98, 47, 47, 47, 46, 46] true = ([[97], [98], [46, 46]], 0) := by decide +kernel
  have e2 : parseA [97, 47, 46, 46, 47, 98] false = ([[97], [46, 46], [98]], 0) := by decide +kernel
  have e3 : makeA [47, 97, 47, 98, 47, 47] = ([[97]], [98], 0) := by decide +kernel
  have e4 : joinA [[97], [46, 46]] = ([47, 97, 47, 46, 46], 0) := by decide +kernel
  have e5 : cleanA [47, 97, 47, 46, 46, 47, 46, 46, 47, 98, 47, 46, 47, 99, 47] = ([47, 98, 47, 99], 0) := by decide +kernel
  rw [e1] at L1 ⊢
  rw [e2] at L2 ⊢
  rw [e3] at L3 ⊢
  rw [e4, e5]
  have f8 := ((f6.no f7).no n8.fr)
  have R1 := (((L1.rd.no f3).no f4).no n5.fr).no f8
  refine same_rd R1 (rd_new (ps := [[97], [98], [46, 46]]) n8) (by show (3 : Nat) ≤ _; omega) ⟨_, rfl, cf rfl (New.intro fun h10 n10 => ?_)⟩
  have R2 := (((L2.rd.no f4).no n5.fr).no f8).no n10.fr
  refine same_rd R2 (rd_new (ps := [[97], [46, 46], [98]]) n10) (by show (3 : Nat) ≤ _; omega) ⟨_, rfl, cf rfl (cf rfl (New.intro fun h12 n12 => ?_))⟩
  have R3 := (((L3.rd.no n5.fr).no f8).no n10.fr).no n12.fr
  refine same_rd R3 (rd_new (ps := [[97]]) n12) (by show (1 : Nat) ≤ _; omega) ⟨_, rfl, cf rfl ?_⟩
  rw [toList_mkStr, toList_mkStr, toList_mkStr]
  refine cf rfl (cf rfl (cf rfl ?_))
  refine num_step (ct rfl (num_step (ct rfl (num_step (ct rfl (num_step (ct rfl (num_step (ct rfl ?_)))))))))
  refine Name_spec fun h20 f20 => ⟨_, rfl, ct (by decide +kernel) (Name_spec fun h21 f21 => ⟨_, rfl, ?_⟩)⟩
  have e6 : (!nameOk [46, 46]) = true := by decide +kernel
  rw [e6]
  exact hK h21 ((((((((f2.no f3).no f4).no n5.fr).no f8).no n10.fr).no n12.fr).no f20).no f21)
theorem PathCleans_spec {s : Txt} {h : Heap} {K : Value → Heap → Prop} (hl : s.length ≤ 9223372036854775806) (hK : ∀ h', Fr No h h' → K (.bool true) h') : C.bolelaw13_PathCleans (mkStr s) h K := by
  refine bolelaw13_PathCleans.ok (known_spec fun h2 f2 => ⟨_, rfl, cf rfl (Parse_spec hl fun a l c h3 f3 L => ⟨_, _, _, _, rfl, Clean_spec hl fun h4 f4 => ⟨_, _, rfl, ?_⟩⟩)⟩)
  have F4 := (f2.no f3).no f4
  by_cases h0 : (parseA s true).2 = 0
  · have T := taken_of h0
    have ec := clean_taken T
    generalize (parseA s true).1 = cs at T L ec
    rw [h0, ec]
    refine cf rfl (num_step (cf rfl ?_))
    obtain ⟨rfl, S⟩ := L
    have T' := T.is.2.2
    rw [fits, Bool.and_eq_true, decide_eq_true_eq] at T'
    have S := S.fr f4 fun _ _ _ x => x
    have bs := cleanL_sub cs
    refine ⟨fun a1 l1 c1 n hh => 0 ≤ n ∧ n ≤ cs.length ∧ Fr No h4 hh ∧ l1 = (cleanL (cs.take n.toNat)).length ∧ l1 ≤ n ∧ Sl hh 1 a1 l1 c1 (strs (cleanL (cs.take n.toNat))) (From h4.size), fun _ _ _ n _ => (cs.length - n).toNat,
      ⟨by omega, by omega, Fr.refl _ _, rfl, Int.le_refl _, Sl.nil _ _ _⟩, ?_⟩
    rintro a1 l1 c1 n h5 ⟨n0, n1, f5, e1, hl1, S1⟩
    have S5 := S.fr f5 fun _ _ _ x => x
    refine cd (fun hi => ?_) fun hi => ?_
    · have hi' : n.toNat < cs.length := by omega
      obtain ⟨p, rfl, cl⟩ := strs_cell S5.cells hi'
      have et : cs.take (n + 1).toNat = cs.take n.toNat ++ [cs[n.toNat]] := by rw [show (n + 1).toNat = n.toNat + 1 by omega, List.take_succ_eq_append_getElem hi']
      have ec : cleanL (cs.take (n + 1).toNat) = cleanStep (cleanL (cs.take n.toNat)) cs[n.toNat] := by rw [et, cleanL, List.foldl_append]; rfl
      have me : ((cs.length : Int) - (n + 1)).toNat < ((cs.length : Int) - n).toNat := by omega
      refine ⟨⟨n0, hi⟩, os ⟨_, cl, ?_⟩⟩
      rw [toList_mkStr, toList_mkStr]
      rw [wrap_i64 (n := n + 1) (by omega) (by omega)]
      refine bne_txt (fun hd => ?_) fun hd => ?_
      · have ecs : cleanL (cs.take (n + 1).toNat) = cleanL (cs.take n.toNat) ++ [cs[n.toNat]] := by rw [ec, cleanStep, if_neg hd]
        refine New.intro fun h6 n6 => ⟨strs [cs[n.toNat]], rfl, cellsAll n6.rd, strs_one _, ?_⟩
        have z6 := n6.size
        have z5 := f5.size
        refine append_own (S1.fr n6.fr fun _ _ _ x => x) rfl rfl (by have b16 : ti9.bytes ≤ 16 := (by decide); have := Nat.mul_le_mul (show l1 + 1 ≤ 40 from (by omega)) b16; exact Nat.le_trans this (by decide)) (by omega) fun a7 c7 h7 f7 S7 => ?_
        refine ⟨⟨by omega, by omega, (f5.new n6).trans f7 fun b hb x => by have x : h4.size ≤ b := x; omega, ?_, by omega, ?_⟩, me⟩
        · rw [ecs, List.length_append, List.length_singleton, ← e1]
        · rw [ecs]
          have S7 : Sl h7 1 a7 (l1 + 1) c7 (strs (cleanL (cs.take n.toNat) ++ [cs[n.toNat]])) (fun b => From h4.size b ∨ h6.size ≤ b) := by rw [strs, List.map_append]; exact S7
          exact S7.mono fun b hb => by
            rcases hb with hb | hb
            · exact hb
            · show h4.size ≤ b; omega
      · have ecs : cleanL (cs.take (n + 1).toNat) = (cleanL (cs.take n.toNat)).dropLast := by rw [ec, cleanStep, if_pos hd]
        have hc1 := S1.le
        refine cd (fun hp => ?_) fun hp => ?_
        · rw [wrap_i64 (n := (l1 : Int) - 1) (by omega) (by omega)]
          refine ⟨⟨by omega, by omega⟩, ⟨by omega, by omega, f5, ?_, ?_, ?_⟩, me⟩
          · rw [ecs, List.length_dropLast, ← e1]; omega
          · omega
          · rw [ecs, show ((l1 : Int) - 1).toNat = l1 - 1 by omega, List.dropLast_eq_take, ← e1, ← strs_take]
            exact sl_sub S1 (by omega) c1 (by omega) (Nat.le_refl _)
        · have z : cleanL (cs.take n.toNat) = [] := List.eq_nil_of_length_eq_zero (by omega)
          refine ⟨⟨by omega, by omega, f5, ?_, ?_, ?_⟩, me⟩
          · rw [ecs, z]; show l1 = 0; omega
          · omega
          · rw [ecs, z]; rw [z] at S1; exact S1
    · rw [List.take_of_length_le (by omega)] at e1 S1
      have ok1 := all_sub bs T.all
      have sh1 := short_sub bs T.short
      have T1 := join_taken true ok1 sh1
      have T2 := join_taken true T.all T.short
      have tl := T.len
      have len1 := T1.is.1
      have len2 := T2.is.1
      refine Parse_spec (by dsimp only; omega) fun a6 l6 c6 h6 f6 L6 => ⟨_, _, _, _, rfl, Clean_spec (by dsimp only; omega) fun h7 f7 => ⟨_, _, rfl, ?_⟩⟩
      have S7 := (S5.fr f6 fun _ _ _ x => x).fr f7 fun _ _ _ x => x
      refine Join_pspec S7.cells rfl S7.le (by omega) (fun q hq => by have := (T.part hq).2; omega) fun h8 f8 => ⟨_, _, rfl, ?_⟩
      rw [joinA_ok T.all T.short]
      refine Parse_spec (by dsimp only; omega) fun a9 l9 c9 h9 f9 L9 => ⟨_, _, _, _, rfl, ?_⟩
      rw [T1.eq] at L6 ⊢
      rw [T2.eq] at L9 ⊢
      have ecl : cleanA (joinT (cleanL cs)) = (joinT (cleanL cs), 0) := by rw [clean_taken T1, cleanL_idem]
      rw [ecl]
      have R6 := ((L6.rd.no f7).no f8).no f9
      have R1 : Rd h9 (cleanL cs) a1 l1 := ⟨((((S1.fr f6 fun _ _ _ x => x).fr f7 fun _ _ _ x => x).fr f8 fun _ _ _ x => x).fr f9 fun _ _ _ x => x).cells, e1.symm⟩
      have RS : Rd h9 cs a cs.length := ⟨((S7.fr f8 fun _ _ _ x => x).fr f9 fun _ _ _ x => x).cells, rfl⟩
      refine num_step (ct rfl (same_rd R6 R1 (by have := bs.length_le; dsimp only; omega) ⟨_, rfl, ct (decide_eq_true rfl) (num_step (ct rfl ?_))⟩))
      rw [toList_mkStr]
      have j1 := joinT_len (cs := cleanL cs)
      have j2 := joinT_len (cs := cs)
      have j3 := slashed_sub bs
      refine ct (beq_self_eq_true _) (ct (decide_eq_true ?_) (num_step (ct rfl (ct (decide_eq_true ?_) (num_step (ct rfl (same_rd L9.rd RS (by dsimp only; omega) ⟨_, rfl, ?_⟩)))))))
      · rw [size_mk, size_mk]; dsimp only; omega
      · rw [size_mk, size_mk]; dsimp only; omega
      · rw [decide_eq_true rfl]; exact hK h9 (((((F4.no f5).no f6).no f7).no f8).no f9)
  · have ec : cleanA s = ([], (parseA s true).2) := by rw [cleanA, if_neg h0]
    rw [ec]
    have e1 : (parseA s true).1 = [] := by
      unfold parseA at h0 ⊢
      split
      · rfl
      · rename_i hw
        rw [if_neg hw] at h0
        cases hc : compA s with
        | none => rfl
        | some cs => rw [hc] at h0; exact absurd rfl h0
    rw [e1] at L
    obtain ⟨rfl, S⟩ := L
    refine cf (by simp) (num_step (ct (bne_iff_ne.mpr h0) (ct (beq_self_eq_true _) (ct (by rw [toList_mkStr]; rfl) (hK h4 F4)))))
end Go.Proofs.Ytgpkcakanieodaa.Pa
