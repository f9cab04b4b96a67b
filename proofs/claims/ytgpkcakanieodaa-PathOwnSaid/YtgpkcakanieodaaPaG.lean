/-
  PATHS: the walk of PathBack.
-/
import Derived.Test.YtgpkcakanieodaaPaF
namespace Go.Proofs.Ytgpkcakanieodaa.Pa
open Go Go.Proofs Go.Proofs.Ytgpkcakanieodaa.Wx Go.Proofs.Ytgpkcakanieodaa.Hp Go.Proofs.Ytgpkcakanieodaa.W Go.Proofs.Ytgpkcakanieodaa.Sk Go.Proofs.Ytgpkcakanieodaa.Ch Go.Proofs.Ytgpkcakanieodaa.Rg

/-- what may be a part: two dots, or a name -/
def mayB (p : Txt) : Bool := p == [46, 46] || nameOk p
theorem may_ok {p : Txt} (h : okPart p = false) : mayB p = false := by
  cases e : mayB p with
  | false => rfl
  | true =>
    unfold mayB at e
    rw [Bool.or_eq_true, beq_iff_eq] at e
    have : okPart p = true := by
      rcases e with rfl | e
      · decide +kernel
      · have n := nameOk_iff.mp e
        exact okPart_iff.mpr ⟨fun x => by have := n.pos; rw [x] at this; exact absurd this (by decide), n.dot, fun b hb => n.all b hb⟩
    rw [this] at h; cases h
theorem ok_may {p : Txt} (h : okPart p = true) (hl : p.length ≤ 27) : mayB p = true := by
  unfold mayB
  rw [Bool.or_eq_true, beq_iff_eq]
  by_cases hd : p = [46, 46]
  · exact .inl hd
  · obtain ⟨h1, h2, h3⟩ := okPart_iff.mp h
    exact .inr (nameOk_iff.mpr ⟨by rcases p with _ | ⟨b, r⟩; exact absurd rfl h1; rw [List.length_cons]; omega, hl, h2, hd, h3⟩)
theorem slashed_take {ps : List Txt} {n : Nat} (hn : n < ps.length) : (slashed (ps.take (n + 1))).length = (slashed (ps.take n)).length + 1 + ps[n].length := by
  rw [List.take_succ_eq_append_getElem hn, slashed, List.flatMap_append, List.length_append]
  show _ + ((47 :: ps[n]) ++ []).length = _
  rw [List.append_nil, List.length_cons]
  show (slashed (ps.take n)).length + _ = _
  omega
theorem slashed_take_le (ps : List Txt) (n : Nat) : (slashed (ps.take n)).length ≤ (slashed ps).length := slashed_sub (List.take_sublist n ps)
theorem slashed_bound {m : Nat} : ∀ ps : List Txt, (∀ p ∈ ps, p.length ≤ m) → (slashed ps).length ≤ ps.length * (m + 1)
  | [], _ => Nat.zero_le _
  | p :: r, h => by
    have h1 := h p (List.mem_cons_self ..)
    have h2 := slashed_bound r fun q hq => h q (List.mem_cons_of_mem _ hq)
    rw [slashed_cons, List.length_append, List.length_cons, List.length_cons, Nat.add_mul]; omega
theorem PathBack_spec {a : Option Addr} {l c : Nat} {ps : List Txt} {h : Heap} {K : Value → Heap → Prop} (B : SlCells h a (strs ps)) (hl : ps.length = l) (hc : l ≤ c) (hn : (slashed ps).length ≤ 140737488355328) (hn2 : ps.length ≤ 140737488355328) (hp : ∀ p ∈ ps, p.length ≤ 140737488355328)
    (hK : ∀ h', Fr No h h' → K (.bool true) h') : C.bolelaw13_PathBack a l c h K := by
  subst hl
  refine bolelaw13_PathBack.ok (known_spec fun h2 f2 => ⟨_, rfl, cf rfl ?_⟩)
  have B2 := SlCells.fr f2 B fun _ _ x => x
  refine ⟨fun n may long i hh => 0 ≤ i ∧ i ≤ ps.length ∧ Fr No h2 hh ∧ n = (slashed (ps.take i.toNat)).length ∧ may = (ps.take i.toNat).all mayB ∧ long = (decide (ps.length > 32) || (ps.take i.toNat).any fun p => decide (p.length > 27)), fun _ _ _ i _ => (ps.length - i).toNat,
    ⟨by omega, by omega, Fr.refl _ _, rfl, rfl, ?_⟩, ?_⟩
  · show _ = (_ || false)
    rw [Bool.or_false, Bool.eq_iff_iff, decide_eq_true_eq, decide_eq_true_eq]; omega
  rintro n may long i h3 ⟨i0, i1, f3, en, em, el⟩
  have B3 := SlCells.fr f3 B2 fun _ _ x => x
  refine cd (fun hi => ?_) fun hi => ?_
  · have hi' : i.toNat < ps.length := by omega
    obtain ⟨p, ea, cl⟩ := strs_cell B3 hi'
    subst ea
    have ei : (i + 1).toNat = i.toNat + 1 := by omega
    have me : ((ps.length : Int) - (i + 1)).toNat < ((ps.length : Int) - i).toNat := by omega
    have en2 := slashed_take hi'
    have le2 := slashed_take_le ps (i.toNat + 1)
    have em2 : (ps.take (i + 1).toNat).all mayB = (may && mayB ps[i.toNat]) := by rw [ei, List.take_succ_eq_append_getElem hi', List.all_append, em, List.all_cons, List.all_nil, Bool.and_true]
    have el2 : (decide (ps.length > 32) || (ps.take (i + 1).toNat).any fun p => decide (p.length > 27)) = (long || decide (ps[i.toNat].length > 27)) := by
      rw [ei, List.take_succ_eq_append_getElem hi', List.any_append, List.any_cons, List.any_nil, Bool.or_false, ← Bool.or_assoc, el]
    have go : ∀ m h5, Fr No h2 h5 → m = (may && mayB ps[i.toNat]) → bolelaw13_PathBack.k1 n may long i h3 (fun n may long i hh => 0 ≤ i ∧ i ≤ ps.length ∧ Fr No h2 hh ∧ n = (slashed (ps.take i.toNat)).length ∧ may = (ps.take i.toNat).all mayB ∧ long = (decide (ps.length > 32) || (ps.take i.toNat).any fun p => decide (p.length > 27))) (fun _ _ _ i _ => (ps.length - i).toNat) (mkStr ps[i.toNat]) m h5 K := by
      intro m h5 f5 e5
      unfold bolelaw13_PathBack.k1
      rw [size_mk, wrap_i64 (n := n + 1) (by omega) (by omega), wrap_i64 (n := n + 1 + _) (by omega) (by omega), wrap_i64 (n := i + 1) (by omega) (by omega)]
      have e1 : n + 1 + (ps[i.toNat].length : Int) = ((slashed (ps.take (i + 1).toNat)).length : Nat) := by rw [ei, en2]; omega
      refine cs (fun hlo => ⟨⟨by omega, by omega, f5, e1, by rw [em2]; exact e5, by rw [el2, hlo]; rfl⟩, me⟩) fun hlo => ⟨⟨by omega, by omega, f5, e1, by rw [em2]; exact e5, ?_⟩, me⟩
      rw [el2, hlo, Bool.false_or, Bool.eq_iff_iff, decide_eq_true_eq, decide_eq_true_eq]; omega
    refine ⟨⟨i0, hi⟩, os ⟨_, cl, ?_⟩⟩
    rw [toList_mkStr, toList_mkStr]
    refine bne_txt (fun hd => Name_spec fun h4 f4 => ⟨_, rfl, ?_⟩) fun hd => go _ h3 f3 ?_
    · have emb : mayB ps[i.toNat] = nameOk ps[i.toNat] := by unfold mayB; rw [beq_eq_false_iff_ne.mpr hd, Bool.false_or]
      refine cnot (cs (fun hy => go _ h4 (f3.no f4) ?_) fun hy => go _ h4 (f3.no f4) ?_)
      · rw [emb, hy, Bool.and_true]
      · rw [emb, hy, Bool.and_false]
    · have : mayB ps[i.toNat] = true := by rw [hd]; rfl
      rw [this, Bool.and_true]
  · rw [List.take_of_length_le (by omega)] at en em el
    have el : long = longB ps := el
    refine Join_pspec B3 rfl hc hn2 hp fun h6 f6 => ⟨_, _, rfl, num_step ?_⟩
    have F6 := (f2.no f3).no f6
    by_cases ha : ps.all okPart = true
    · cases hlo : longB ps with
      | true =>
        have ej : joinA ps = ([], 130) := by rw [joinA, if_pos ha, if_pos hlo]
        rw [ej]
        refine ct rfl (ct (by rw [toList_mkStr]; rfl) (num_step (cf rfl (num_step (ct rfl ?_)))))
        rw [el, hlo]; exact hK h6 F6
      | false =>
        have ej := joinA_ok ha hlo
        have T := join_taken true ha hlo
        have T' := join_taken false ha hlo
        have em1 : may = true := by
          rw [em, List.all_eq_true]
          intro p hp'
          refine ok_may (List.all_eq_true.mp ha p hp') ?_
          have := short_iff.mp hlo
          rw [fits, Bool.and_eq_true, List.all_eq_true] at this
          simpa using this.1 p hp'
        rw [ej, em1, el, hlo]
        have len1 := T.is.1
        refine cf rfl (Parse_spec (by dsimp only; omega) fun a1 l1 c1 h7 f7 L1 => ⟨_, _, _, _, rfl, Text_spec (by dsimp only; omega) fun a2 l2 c2 h8 f8 L2 => ⟨_, _, _, _, _, rfl, ?_⟩⟩)
        rw [T.eq] at L1 ⊢
        rw [T'.eq] at L2 ⊢
        have F8 := (F6.no f7).no f8
        have R8 : Rd h8 ps a ps.length := ⟨SlCells.fr F8 B fun _ _ x => x, rfl⟩
        refine cf rfl (cf rfl (cf ?_ (num_step (cf rfl (same_rd (L1.rd.no f8) R8 (by dsimp only; omega) ⟨_, rfl, ?_⟩)))))
        · have := joinT_len (cs := ps)
          rw [size_mk]
          dsimp only
          rw [this, en, bne_eq_false_iff_eq]
          split <;> omega
        rw [decide_eq_true rfl]
        refine cf rfl (num_step (cf rfl (cf ?_ (same_rd L2.rd R8 (by dsimp only; omega) ⟨_, rfl, ?_⟩))))
        · rw [joinT_head]; rfl
        rw [decide_eq_true rfl]
        refine cf rfl (Make_spec (by dsimp only; omega) fun a3 l3 c3 h9 f9 L3 => ⟨_, _, _, _, _, rfl, ?_⟩)
        have F9 := F8.no f9
        rw [make_join ha hlo] at L3 ⊢
        refine ce (fun h0 => ?_) fun h0 => ?_
        · have h0 : ps = [] := List.eq_nil_of_length_eq_zero (by omega)
          rw [if_pos h0] at L3 ⊢
          obtain ⟨rfl, _⟩ := L3
          refine num_step (ct rfl (ct rfl ?_))
          rw [toList_mkStr]; exact hK h9 F9
        · have h1 : ps ≠ [] := fun e => by rw [e] at h0; exact h0 rfl
          have hpos : 0 < ps.length := List.length_pos_iff.mpr h1
          rw [if_neg h1] at L3 ⊢
          have B9 := SlCells.fr F9 B fun _ _ x => x
          obtain ⟨q, rfl, cl⟩ := strs_cell B9 (i := ps.length - 1) (by omega)
          have eg : ps[ps.length - 1]'(by omega) = ps.getLastD [] := by
            rw [List.getLastD_eq_getLast?, List.getLast?_eq_getElem?, List.getElem?_eq_getElem (by omega)]; rfl
          rw [eg] at cl
          rw [wrap_i64 (n := (ps.length : Int) - 1) (by omega) (by omega)]
          have et : ((ps.length : Int) - 1).toNat = ps.length - 1 := by omega
          rw [et]
          refine ⟨⟨by omega, by omega⟩, os ⟨_, cl, ?_⟩⟩
          rw [toList_mkStr, toList_mkStr]
          refine beq_txt (fun hd => ?_) fun hd => ?_
          · rw [if_pos hd] at L3 ⊢
            obtain ⟨rfl, _⟩ := L3
            refine num_step (ct rfl (ct rfl ?_))
            rw [toList_mkStr]; exact hK h9 F9
          · rw [if_neg hd] at L3 ⊢
            have R9 : Rd h9 ps.dropLast (some q) (ps.length - 1) := ⟨by rw [List.dropLast_eq_take, ← strs_take]; exact SlCells.take B9 _, by rw [List.length_dropLast]⟩
            refine num_step (ct rfl ⟨⟨by omega, by omega⟩, same_rd L3.rd R9 (by dsimp only; rw [List.length_dropLast]; omega) ⟨_, rfl, ct (decide_eq_true rfl) ⟨⟨by omega, by omega⟩, os ⟨_, cl, ?_⟩⟩⟩⟩)
            rw [beq_self_eq_true]; exact hK h9 F9
    · have ej : joinA ps = ([], 1) := by rw [joinA, if_neg ha]
      have em1 : may = false := by
        have : ps.all okPart = false := by simpa using ha
        rw [List.all_eq_false] at this
        obtain ⟨p, hp', hno⟩ := this
        rw [em, List.all_eq_false]
        exact ⟨p, hp', by rw [may_ok (by simpa using hno)]; simp⟩
      rw [ej, em1]
      refine ct rfl (ct (by rw [toList_mkStr]; rfl) (num_step (ct rfl (ct rfl (hK h6 F6)))))
end Go.Proofs.Ytgpkcakanieodaa.Pa
