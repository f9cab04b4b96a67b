import Derived.Test.YtnbfaokpaiiojaaWxI
namespace Go.Proofs.Ytnbfaokpaiiojaa.Wx
open Go

/-! What an operation hangs on. -/
theorem mask_bit (acc : Array Nat) : ∀ (ps : List Nat) (j : Nat), (mask acc ps).testBit j = true → ∃ p ∈ ps, p = j ∨ (acc.getD p 0).testBit j = true
  | [], j, h => by simp [mask] at h
  | p :: r, j, h => by
    simp only [mask, Nat.testBit_or, Bool.or_eq_true] at h
    rcases h with (h | h) | h
    · refine ⟨p, by simp, .inl ?_⟩
      by_cases e : p = j
      · exact e
      · rw [Nat.testBit_two_pow_of_ne e] at h; cases h
    · exact ⟨p, by simp, .inr h⟩
    · obtain ⟨q, hq, hj⟩ := mask_bit acc r j h
      exact ⟨q, by simp [hq], hj⟩
theorem masks_prefix : ∀ (l : List Oper) (acc : Array Nat) (p : Nat), p < acc.size → (masks l acc).getD p 0 = acc.getD p 0
  | [], _, _, _ => rfl
  | o :: r, acc, p, h => by
    rw [masks, masks_prefix r _ p (by simp; omega)]
    simp [Array.getElem?_push, show p ≠ acc.size by omega]
theorem masks_at : ∀ (l : List Oper) (acc : Array Nat) (k : Nat) (o : Oper), l[k]? = some o → ∃ acc' : Array Nat, acc'.size = acc.size + k ∧ (masks l acc).getD (acc.size + k) 0 = mask acc' (predsOf o) ∧
    ∀ p, p < acc'.size → acc'.getD p 0 = (masks l acc).getD p 0
  | [], _, _, _, h => by simp at h
  | o :: r, acc, 0, o', h => by
    have e : o = o' := by simpa using h
    subst e
    refine ⟨acc, rfl, ?_, fun p hp => ?_⟩
    · rw [masks, masks_prefix r _ _ (by simp)]
      simp
    · rw [masks, masks_prefix r _ _ (by simp; omega)]
      simp [Array.getElem?_push, show p ≠ acc.size by omega]
  | o :: r, acc, k + 1, o', h => by
    obtain ⟨acc', h1, h2, h3⟩ := masks_at r (acc.push (mask acc (predsOf o))) k o' (by simpa using h)
    refine ⟨acc', by rw [h1]; simp; omega, ?_, fun p hp => by rw [masks]; exact h3 p hp⟩
    rw [masks]
    have e : (acc.push (mask acc (predsOf o))).size + k = acc.size + (k + 1) := by simp; omega
    rw [e] at h2
    exact h2
theorem reach_listed {full : List Oper} (hback : ∀ i o, full[i]? = some o → ∀ p ∈ predsOf o, p < i) {listed : Nat → Bool}
    (hcl : ∀ i o, full[i]? = some o → listed i = true → ∀ p ∈ predsOf o, listed p = true) :
    ∀ (i : Nat) (o : Oper), full[i]? = some o → (∀ p ∈ predsOf o, listed p = true) → ∀ j, ((masks full #[]).getD i 0).testBit j = true → listed j = true := by
  intro i
  induction i using Nat.strongRecOn with
  | _ i ih =>
    intro o ho hp j hj
    obtain ⟨acc', h1, h2, h3⟩ := masks_at full #[] i o ho
    simp only [List.size_toArray, List.length_nil, Nat.zero_add] at h1 h2
    rw [h2] at hj
    obtain ⟨p, hpm, hpj⟩ := mask_bit acc' _ _ hj
    rcases hpj with rfl | hpj
    · exact hp p hpm
    · have hlt := hback i o ho p hpm
      rw [h3 p (by rw [h1]; exact hlt)] at hpj
      have hlen : p < full.length := by
        have := (List.getElem?_eq_some_iff.1 ho).1
        omega
      have hop : full[p]? = some full[p] := List.getElem?_eq_getElem hlen
      exact ih p hlt _ hop (hcl p _ hop (hp p hpm)) j hpj

/-- what the check of an order gives -/
structure Plan (C : Ctx) (full : List Oper) (L : List (Nat × List Nat)) : Prop where
  len : L.length ≤ full.length
  sel : ∀ o ∈ full, noSel o = true
  back : ∀ i o, full[i]? = some o → ∀ p ∈ predsOf o, p < i
  self : ∀ o ∈ full, isReadOp C o.op = true → dstLooks full o o = false ∧ o.dst.isNone = false
  all : ∀ i, i < full.length → i ∈ L.map (·.1)
  lt : ∀ x ∈ L, x.1 < full.length
  st : ∀ x ∈ L, ∀ j ∈ x.2, ∀ oj, full[j]? = some oj → isReadOp C oj.op = true
  pairs : L.Pairwise fun x y => pairB C full (masks full #[]) x y = true
theorem pairsB_pw {C : Ctx} {full : List Oper} {M : Array Nat} : ∀ {L : List (Nat × List Nat)}, pairsB C full M L = true → L.Pairwise fun x y => pairB C full M x y = true
  | [], _ => .nil
  | x :: r, h => by
    simp only [pairsB, Bool.and_eq_true, List.all_eq_true] at h
    exact .cons (fun y hy => h.1 y hy) (pairsB_pw h.2)
theorem planB_plan {C : Ctx} {full : List Oper} {L : List (Nat × List Nat)} (h : planB C full L = true) : Plan C full L := by
  simp only [planB, Bool.and_eq_true] at h
  obtain ⟨⟨⟨⟨⟨⟨h0, h1⟩, h2⟩, h3⟩, h4⟩, h5⟩, h6⟩ := h
  refine ⟨Nat.le_of_ble_eq_true h0, List.all_eq_true.1 h1, ?_, ?_, ?_, ?_, ?_, pairsB_pw h6⟩
  · intro i o ho p hp
    have hm : (o, i) ∈ full.zipIdx := by
      rw [List.mem_iff_getElem?]
      exact ⟨i, by simp [List.getElem?_zipIdx, ho]⟩
    have := List.all_eq_true.1 (List.all_eq_true.1 h2 _ hm) p hp
    exact Nat.le_of_ble_eq_true this
  · intro o ho hr
    have := List.all_eq_true.1 h3 o ho
    rw [hr] at this
    simpa using this
  · intro i hi
    have := List.all_eq_true.1 h4 i (List.mem_range.2 hi)
    simpa using this
  · intro x hx
    have := List.all_eq_true.1 h5 x hx
    simp only [Bool.and_eq_true] at this
    exact Nat.le_of_ble_eq_true this.1
  · intro x hx j hj oj hoj
    have := List.all_eq_true.1 h5 x hx
    simp only [Bool.and_eq_true] at this
    have := List.all_eq_true.1 this.2 j hj
    rw [hoj] at this
    exact this

theorem pairB_spec {C : Ctx} {full : List Oper} {M : Array Nat} {x i : Nat × List Nat} (h : pairB C full M x i = true) :
    ∃ ox oi, full[x.1]? = some ox ∧ full[i.1]? = some oi ∧ x.1 ≠ i.1 ∧ i.1 ∉ predsOf ox ∧ sameDst ox oi = false ∧ (isReadOp C ox.op = true → dstLooks full oi ox = false) ∧
      ((M.getD i.1 0).testBit x.1 = true ∨ (isQ ox.op = true ∧ dstLooks full ox oi = false ∧ dstLooks full oi ox = false ∧ (isQ oi.op = true ∨ isReadOp C ox.op = false ∨ x.1 ∈ i.2))) := by
  unfold pairB at h
  cases hx : full[x.1]? with
  | none => rw [hx] at h; cases h
  | some ox =>
    cases hi : full[i.1]? with
    | none => rw [hx, hi] at h; cases h
    | some oi =>
      rw [hx, hi] at h
      simp only [Bool.and_eq_true, Bool.not_eq_true', Bool.or_eq_true] at h
      obtain ⟨⟨⟨⟨h1, h2⟩, h3⟩, h4⟩, h5⟩ := h
      refine ⟨ox, oi, rfl, rfl, fun e => ?_, fun hm => ?_, h3, fun hr => ?_, ?_⟩
      · rw [e, Nat.beq_refl] at h1; cases h1
      · rw [List.contains_iff_mem.2 hm] at h2; cases h2
      · rw [hr, Bool.true_and] at h4; exact h4
      · rcases h5 with h5 | ⟨⟨⟨h5, h6⟩, h7⟩, h8⟩
        · exact .inl h5
        · refine .inr ⟨h5, h6, h7, ?_⟩
          rcases h8 with (h8 | h8) | h8
          · exact .inl h8
          · exact .inr (.inl h8)
          · exact .inr (.inr (List.contains_iff_mem.1 h8))
theorem pair_behind {C : Ctx} {full : List Oper} {M : Array Nat} {x y : Nat × List Nat} (h : pairB C full M x y = true) : Behind C full x y := by
  obtain ⟨ox, oy, h1, h2, h3, h4, h5, h6, h7⟩ := pairB_spec h
  intro ox' oy' e1 e2 hr
  rw [h1] at e1; rw [h2] at e2
  have := Option.some.inj e1; subst this
  have := Option.some.inj e2; subst this
  exact ⟨h6 hr, by rw [sameDst_comm]; exact h5⟩

theorem sw_any {C : Ctx} {full : List Oper} {n : Nat} (hdst : ∀ o ∈ full, dstOk n o = true) {L0 : List (Nat × List Nat)} (hp : Plan C full L0) {Q : Exit → Act → World → Prop} {N : Act → World → Prop} (hN : ∀ a w, N a w → Q .normal a w) :
    ∀ (fuel : Nat) (listed : Array Bool) (L : List (Nat × List Nat)) (D : Nat → Bool) (a : Act) (w : World), listed.size = full.length → L.Sublist L0 →
      (∀ i, i < full.length → (listed.getD i true = false ↔ i ∈ L.map (·.1))) → (∀ i o, full[i]? = some o → listed.getD i false = true → ∀ p ∈ predsOf o, listed.getD p false = true) →
      Apart C full D L → a.tmps.size = n → L.length ≤ fuel → SW C full L D N a w → wpAny C.P .any full.toArray Q fuel listed a w := by
  have pm : ∀ (o : Oper) (e : Edge), e ∈ o.after → Region.binds .any e = true → e.on ∈ predsOf o := fun o e he hb =>
    List.mem_map.2 ⟨e, List.mem_filter.2 ⟨by simpa using he, hb⟩, rfl⟩
  have mp : ∀ (o : Oper) (p : Nat), p ∈ predsOf o → ∃ e ∈ o.after, Region.binds .any e = true ∧ e.on = p := fun o p h => by
    obtain ⟨e, he, rfl⟩ := List.mem_map.1 h
    obtain ⟨h1, h2⟩ := List.mem_filter.1 he
    exact ⟨e, by simpa using h1, h2, rfl⟩
  have flip : ∀ (listed : Array Bool) (i : Nat), listed.size = full.length → i < full.length → listed.getD i true = listed.getD i false := by
    intro listed i hs hi
    have hlt : i < listed.size := by omega
    rw [Array.getD_eq_getD_getElem?, Array.getD_eq_getD_getElem?, Array.getElem?_eq_getElem hlt]
    rfl
  -- where nothing is ready, nothing is left
  have none_left : ∀ (listed : Array Bool) (L : List (Nat × List Nat)), listed.size = full.length → L.Sublist L0 → (∀ i, i < full.length → (listed.getD i true = false ↔ i ∈ L.map (·.1))) →
      Region.ready .any full.toArray listed = [] → L = [] := by
    intro listed L hs hsub hiff hr
    cases L with
    | nil => rfl
    | cons x r =>
      exfalso
      have hxm : x ∈ L0 := hsub.subset (by simp)
      have hlt := hp.lt x hxm
      have hox : full[x.1]? = some full[x.1] := List.getElem?_eq_getElem hlt
      have hmem : x.1 ∈ Region.ready .any full.toArray listed := by
        refine mem_ready.2 ⟨(hiff x.1 hlt).2 (by simp), full[x.1], by simp, fun e he hb => ?_⟩
        have hpm := pm _ e he hb
        have hplt := hp.back _ _ hox _ hpm
        cases hl : listed.getD e.on false with
        | true => rfl
        | false =>
          exfalso
          rw [← flip listed e.on hs (by omega)] at hl
          have hin := (hiff e.on (by omega)).1 hl
          simp only [List.map_cons, List.mem_cons] at hin
          rcases hin with hin | hin
          · omega
          · obtain ⟨y, hy, hye⟩ := List.mem_map.1 hin
            have hpw := (List.pairwise_cons.1 (hp.pairs.sublist hsub)).1 y hy
            obtain ⟨ox, oy, h1, h2, h3, h4, _⟩ := pairB_spec hpw
            rw [hox] at h1
            have := Option.some.inj h1; subst this
            exact h4 (hye ▸ hpm)
      rw [hr] at hmem
      exact absurd hmem (by simp)
  intro fuel
  induction fuel with
  | zero =>
    intro listed L D a w hs hsub hiff hcl hap hsz hlen h
    have hL : L = [] := List.eq_nil_of_length_eq_zero (by omega)
    subst hL
    refine ⟨?_, hN _ _ h⟩
    cases hr : Region.ready .any full.toArray listed with
    | nil => rfl
    | cons j r =>
      exfalso
      have hj : j ∈ Region.ready .any full.toArray listed := by rw [hr]; simp
      obtain ⟨h1, o, h2, _⟩ := mem_ready.1 hj
      have hlt : j < full.length := by
        have := (Array.getElem?_eq_some_iff.1 h2).1
        simpa using this
      exact absurd ((hiff j hlt).1 h1) (by simp)
  | succ fuel ih =>
    intro listed L D a w hs hsub hiff hcl hap hsz hlen h
    refine ⟨fun hr => ?_, fun i hi => ?_⟩
    · have := none_left listed L hs hsub hiff hr
      subst this
      exact hN _ _ h
    · obtain ⟨h1, o, h2, h3⟩ := mem_ready.1 hi
      have ho : full[i]? = some o := by simpa using h2
      have hlt : i < full.length := (List.getElem?_eq_some_iff.1 ho).1
      obtain ⟨x, hx, hxi⟩ := List.mem_map.1 ((hiff i hlt).1 h1)
      obtain ⟨i', st⟩ := x
      simp only at hxi
      subst hxi
      obtain ⟨pre, post, rfl⟩ := List.append_of_mem hx
      have hpreds : ∀ p ∈ predsOf o, listed.getD p false = true := fun p hp' => by
        obtain ⟨e, he, hb, rfl⟩ := mp o p hp'
        exact h3 e he hb
      have hpw := hp.pairs.sublist hsub
      rw [List.pairwise_append] at hpw
      obtain ⟨hpw1, hpw2, hpw3⟩ := hpw
      have hreach := reach_listed hp.back (listed := fun k => listed.getD k false) hcl i' o ho hpreds
      have unl : ∀ y ∈ pre ++ (i', st) :: post, listed.getD y.1 false = false := fun y hy => by
        have hl := hp.lt y (hsub.subset hy)
        rw [← flip listed y.1 hs hl]
        exact (hiff y.1 hl).2 (List.mem_map.2 ⟨y, hy, rfl⟩)
      have hswap : ∀ x ∈ pre, Swap C full x (i', st) := by
        intro x hx'
        obtain ⟨ox, oi, g1, g2, g3, g4, g5, g6, g7⟩ := pairB_spec (hpw3 x hx' (i', st) (by simp))
        have hno : ((masks full #[]).getD i' 0).testBit x.1 = false := by
          cases hb : ((masks full #[]).getD i' 0).testBit x.1 with
          | false => rfl
          | true =>
            have := hreach x.1 hb
            rw [unl x (by simp [hx'])] at this
            cases this
        rcases g7 with g7 | ⟨k1, k2, k3, k4⟩
        · rw [hno] at g7; cases g7
        · refine ⟨fun o1 e1 => ?_, fun o1 o2 e1 e2 => ?_, fun o1 o2 e1 e2 hnq hr => ?_⟩
          · rw [g1] at e1; have := Option.some.inj e1; subst this; exact k1
          · rw [g1] at e1; rw [g2] at e2; have := Option.some.inj e1; subst this; have := Option.some.inj e2; subst this; exact ⟨k2, k3, g5⟩
          · rw [g1] at e1; rw [g2] at e2; have := Option.some.inj e1; subst this; have := Option.some.inj e2; subst this
            rcases k4 with k4 | k4 | k4
            · rw [hnq] at k4; cases k4
            · rw [hr] at k4; cases k4
            · exact k4
      have hfront := front_of hdst hp.sel hp.self i' st (fun j hj oj hoj => hp.st (i', st) (hsub.subset (by simp)) j hj oj hoj) post N pre D a w hsz hswap
        (fun j oj hD hoj hr x hx' ox hox => hap j oj hD hoj hr x (by simp [hx']) ox hox) (hpw1.imp fun h => pair_behind h) h
      obtain ⟨o', ho', hf⟩ := hfront
      rw [ho] at ho'
      have := Option.some.inj ho'
      subst this
      -- the rest, behind i
      have hsub' : (pre ++ post).Sublist L0 := ((List.append_sublist_append_left pre).2 (List.sublist_cons_self _ _)).trans hsub
      have hni : i' ∉ (pre ++ post).map (·.1) := by
        intro hm
        obtain ⟨y, hy, hye⟩ := List.mem_map.1 hm
        rcases List.mem_append.1 hy with hy | hy
        · obtain ⟨_, _, _, _, g3, _⟩ := pairB_spec (hpw3 y hy (i', st) (by simp))
          exact g3 hye
        · obtain ⟨_, _, _, _, g3, _⟩ := pairB_spec ((List.pairwise_cons.1 hpw2).1 y hy)
          exact g3 hye.symm
      have next : ∀ (v : Value) (w' : World), SW C full (pre ++ post) (addD D i') N (a.put o.dst v) w' → wpAny C.P .any full.toArray Q fuel (listed.setIfInBounds i' true) (a.put o.dst v) w' := by
        intro v w' hsw
        refine ih _ _ _ _ _ (by simpa using hs) hsub' ?_ ?_ ?_ (by rw [size_put]; exact hsz) (by simp at hlen ⊢; omega) hsw
        · intro j hj
          by_cases e : i' = j
          · subst e
            constructor
            · intro hh
              have : (listed.setIfInBounds i' true).getD i' true = true := by
                rw [Array.getD_eq_getD_getElem?]
                simp [show i' < listed.size by omega]
              rw [this] at hh; cases hh
            · intro hh; exact absurd hh hni
          · rw [getD_set_ne true e, hiff j hj]
            simp only [List.map_append, List.map_cons, List.mem_append, List.mem_cons]
            constructor
            · rintro (hh | rfl | hh)
              · exact .inl hh
              · exact absurd rfl e
              · exact .inr hh
            · rintro (hh | hh)
              · exact .inl hh
              · exact .inr (.inr hh)
        · intro j oj hoj hl p hp'
          by_cases e : i' = j
          · subst e
            rw [ho] at hoj
            have := Option.some.inj hoj
            subst this
            exact getD_set_true (hpreds p hp')
          · rw [getD_set_ne false e] at hl
            exact getD_set_true (hcl j oj hoj hl p hp')
        · intro j oj hD hoj hr x hx' ox hox
          simp only [addD, Bool.or_eq_true] at hD
          rcases hD with hD | hD
          · have e := Nat.eq_of_beq_eq_true hD
            subst e
            rw [ho] at hoj
            have := Option.some.inj hoj
            subst this
            rcases List.mem_append.1 hx' with hx' | hx'
            · obtain ⟨k1, _, k3⟩ := (hswap x hx').a ox o hox ho
              exact ⟨k1, k3⟩
            · exact pair_behind ((List.pairwise_cons.1 hpw2).1 x hx') o ox ho hox hr
          · exact hap j oj hD hoj hr x (by rcases List.mem_append.1 hx' with hx' | hx' <;> simp [hx']) ox hox
      unfold wpOp
      simp only [h2]
      split
      · rename_i hw
        have hw' : wantB full a o = true := hw
        rw [hw', if_pos rfl] at hf
        refine .inl ?_
        cases hq : isQ o.op with
        | true =>
          rw [hq, if_pos rfl] at hf
          obtain ⟨v, r1, _, r3⟩ := hf
          exact wp_of_OpTo (k := fun u w' => u = v ∧ w' = w) (.inl ⟨v, w, r1, rfl, rfl⟩) fun u w' ⟨e1, e2⟩ => by subst e1; subst e2; exact next _ _ r3
        | false =>
          rw [hq, if_neg (by simp)] at hf
          exact wp_of_OpTo hf fun u w' ⟨_, hk⟩ => next _ _ hk
      · rename_i hw
        have hw' : wantB full a o = false := by simpa [wantB] using hw
        rw [hw', if_neg (by simp)] at hf
        exact next _ _ hf
end Go.Proofs.Ytnbfaokpaiiojaa.Wx
