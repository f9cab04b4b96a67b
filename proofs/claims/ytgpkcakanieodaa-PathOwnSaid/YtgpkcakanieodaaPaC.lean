/-
  PATHS: components, Parse, Text.
-/
import Derived.Test.YtgpkcakanieodaaPaB
namespace Go.Proofs.Ytgpkcakanieodaa.Pa
open Go Go.Proofs Go.Proofs.Ytgpkcakanieodaa.Wx Go.Proofs.Ytgpkcakanieodaa.Hp Go.Proofs.Ytgpkcakanieodaa.W Go.Proofs.Ytgpkcakanieodaa.Sk Go.Proofs.Ytgpkcakanieodaa.Ch Go.Proofs.Ytgpkcakanieodaa.Rg

def noDot (ps : List Txt) : List Txt := ps.filter fun p => !(p == [46])
def comps (s : Txt) : List Txt := noDot (pieces s)
def fits (cs : List Txt) : Bool := cs.all (fun p => decide (p.length ≤ 27)) && decide (cs.length ≤ 32)
/-- the components, if they are neither too long nor too many -/
def compA (s : Txt) : Option (List Txt) := if s.length ≤ 1024 then (if fits (comps s) = true then some (comps s) else none) else none
theorem noDot_append (ps : List Txt) (x : Txt) : noDot (ps ++ [x]) = if x = [46] then noDot ps else noDot ps ++ [x] := by
  rw [noDot, List.filter_append]
  by_cases h : x = [46]
  · rw [if_pos h, h]; show _ ++ [] = _; rw [List.append_nil, noDot]
  · rw [if_neg h, List.filter_cons_of_pos (by simp [h])]; rfl
theorem fits_false_append {cs ds : List Txt} (h : fits cs = false) : fits (cs ++ ds) = false := by
  cases e : fits (cs ++ ds) with
  | false => rfl
  | true =>
    rw [fits, Bool.and_eq_true, List.all_append, Bool.and_eq_true, decide_eq_true_eq, List.length_append] at e
    rw [fits, e.1.1, decide_eq_true (by omega)] at h; cases h
theorem noDot_split (pre : List Txt) (x : Txt) (rest : List Txt) : noDot (pre ++ x :: rest) = noDot (pre ++ [x]) ++ noDot rest := by
  rw [show pre ++ x :: rest = (pre ++ [x]) ++ rest by simp, noDot, List.filter_append]; rfl
theorem byteIn_ge (c : UInt8) : ∀ l : List UInt8, -1 ≤ byteIn l c ∧ decide (byteIn l c ≥ 0) = l.contains c
  | [] => ⟨Int.le_refl _, rfl⟩
  | b :: r => by
    obtain ⟨h1, h2⟩ := byteIn_ge c r
    show -1 ≤ (if b == c then (0 : Int) else if byteIn r c == -1 then -1 else byteIn r c + 1) ∧ decide ((if b == c then (0 : Int) else if byteIn r c == -1 then -1 else byteIn r c + 1) ≥ 0) = _
    rw [List.contains_cons]
    cases hb : b == c with
    | true =>
      rw [if_pos rfl]
      have : c == b := by rw [beq_iff_eq] at hb ⊢; exact hb.symm
      rw [this]; exact ⟨by decide, rfl⟩
    | false =>
      have hn : (c == b) = false := by
        rw [beq_eq_false_iff_ne] at hb ⊢; exact fun e => hb e.symm
      rw [if_neg (by simp), hn, Bool.false_or, ← h2]
      cases h : byteIn r c == -1 with
      | true =>
        rw [if_pos rfl]
        rw [beq_iff_eq] at h
        rw [h]; decide
      | false =>
        rw [if_neg (by simp)]
        rw [beq_eq_false_iff_ne] at h
        refine ⟨by omega, ?_⟩
        rw [Bool.eq_iff_iff, decide_eq_true_eq, decide_eq_true_eq]; omega
def wrongB (s : Txt) (isPath : Bool) : Bool := (s == []) || (s.contains 0 || (isPath && !(s.head? == some 47)))
theorem wrong_spec {s : Txt} {p : Bool} {h : Heap} {K : Value → Heap → Prop} (hK : K (.bool (wrongB s p)) h) : C.path_wrong (mkStr s) p h K := by
  refine path_wrong.ok ?_
  unfold path_wrong
  rw [toList_mkStr, toList_mkStr]
  unfold wrongB at hK
  cases h0 : (s == []) with
  | true => rw [h0, Bool.true_or] at hK; exact hK
  | false =>
    rw [h0, Bool.false_or] at hK
    refine IndexByte_spec (c := 0) ⟨_, rfl, ?_⟩
    rw [(byteIn_ge 0 s).2]
    cases hc : s.contains 0 with
    | true => rw [hc, Bool.true_or] at hK; exact hK
    | false =>
      rw [hc, Bool.false_or] at hK
      cases p with
      | false => exact hK
      | true =>
        cases s with
        | nil => cases h0
        | cons b r =>
          refine ⟨⟨by decide, by rw [size_mk]; show (0 : Int) < ((r.length + 1 : Nat) : Int); omega⟩, b, rfl, ?_⟩
          have e : (((UInt8.toNat b : Nat) : Int) != 47) = !((b :: r).head? == some 47) := by
            show _ = !(some b == some 47)
            rw [Bool.eq_iff_iff, bne_iff_ne, Bool.not_eq_true', beq_eq_false_iff_ne]
            constructor
            · intro h e; rw [Option.some.inj e] at h; exact h rfl
            · intro h e; exact h (congrArg some (UInt8.toNat_inj.mp (show b.toNat = 47 by omega)))
          rw [e]; exact hK
/-- between two rounds of the loop of components -/
structure Bs (h : Heap) (s : Txt) (hh : Heap) : Prop where
  fr : Fr No h hh
  size : h.size + 6 ≤ hh.size
  o1 : Own hh h.size
  l1 : (rd hh h.size).length = 1
  o2 : Own hh (h.size + 1)
  l2 : (rd hh (h.size + 1)).length = 1
  o3 : Own hh (h.size + 2)
  l3 : (rd hh (h.size + 2)).length = 1
  r4 : rd hh (h.size + 3) = [.string (mkStr s)]
  d : hh[h.size + 4]? = some (.deferred (some []))
theorem Bs.step {h : Heap} {s : Txt} {hh hh' : Heap} {F : Nat → Prop} (b : Bs h s hh) (f : Fr F hh hh') (hF : ∀ x, F x → x = h.size + 5 ∨ h.size + 6 ≤ x) : Bs h s hh' := by
  have hs := b.size
  have hs' := f.size
  have n : ∀ k, k ≤ 4 → ¬ F (h.size + k) := fun k hk x => by have := hF _ x; omega
  exact ⟨b.fr.trans f fun x hx e => by have := hF x e; omega, by omega, f.own b.o1.lt (n 0 (by omega)) b.o1, by rw [f.rd b.o1.lt (n 0 (by omega))]; exact b.l1, f.own b.o2.lt (n 1 (by omega)) b.o2, by rw [f.rd b.o2.lt (n 1 (by omega))]; exact b.l2,
    f.own b.o3.lt (n 2 (by omega)) b.o3, by rw [f.rd b.o3.lt (n 2 (by omega))]; exact b.l3, (f.rd (by omega) (n 3 (by omega))).trans b.r4, (f.same _ (by omega) (n 4 (by omega))).trans b.d⟩
theorem Bs.wrote {h : Heap} {s : Txt} {hh hh' : Heap} {k : Nat} {v : Value} (b : Bs h s hh) (hk : k ≤ 2) (d : Did (h.size + k) hh hh' ((rd hh (h.size + k)).set 0 v)) : Bs h s hh' ∧ rd hh' (h.size + k) = [v] := by
  have hs := b.size
  have hz := d.size
  have lk : (rd hh (h.size + k)).length = 1 := by
    have : k = 0 ∨ k = 1 ∨ k = 2 := by omega
    rcases this with rfl | rfl | rfl
    · exact b.l1
    · exact b.l2
    · exact b.l3
  have e : rd hh' (h.size + k) = [v] := by
    rw [d.rd]
    match rd hh (h.size + k), lk with
    | [_], _ => rfl
  have len : ∀ j, j ≤ 2 → (rd hh (h.size + j)).length = 1 → (rd hh' (h.size + j)).length = 1 := fun j hj hl => by
    by_cases hjk : j = k
    · subst hjk; rw [e]; rfl
    · rw [d.at_ (by omega) (by omega)]; exact hl
  exact ⟨⟨b.fr.did d fun x => by omega, by omega, d.ow b.o1, len 0 (by omega) b.l1, d.ow b.o2, len 1 (by omega) b.l2, d.ow b.o3, len 2 (by omega) b.l3, (d.at_ (by omega) (by omega)).trans b.r4, (d.fr.same _ (by omega) (by omega)).trans b.d⟩, e⟩
/-- and what has come so far -/
structure Js (h : Heap) (s : Txt) (R : Loop) (pre : List Txt) (hh : Heap) : Prop where
  b : Bs h s hh
  on : LoopOn hh (h.size + 5) R .ready none
  fit : fits (noDot pre) = true
  l : ∃ a c, rd hh (h.size + 2) = [.slice a (noDot pre).length c] ∧ Sl hh 1 a (noDot pre).length c (strs (noDot pre)) (From (h.size + 6))
theorem components_spec {s : Txt} {h : Heap} {K : Value → Heap → Prop} (hl : s.length ≤ 9223372036854775806) (hN : compA s = none → ∀ h', Fr No h h' → K (.tuple #[.slice none 0 0, .int .i64 130]) h')
    (hK : ∀ cs, compA s = some cs → ∀ a c h', Fr No h h' → Sl h' 1 a cs.length c (strs cs) (From h.size) → K (.tuple #[.slice a cs.length c, .int .i64 0]) h') : C.path_components (mkStr s) 1024 h K := by
  refine path_components.ok (New.intro fun h2 n2 => New.intro fun h3 n3 => ?_)
  have s2 := n2.size
  have s3 := n3.size
  rw [size_mk, s2]
  have o1 : Own h3 h.size := n3.ow n2.own
  have r1 : rd h3 h.size = [.slice none 0 0] := (n3.at_ (by omega)).trans n2.rd
  have o2 : Own h3 (h.size + 1) := by have := n3.own; rw [s2] at this; exact this
  have r2 : rd h3 (h.size + 1) = [.int .i64 0] := by have := n3.rd; rw [s2] at this; exact this
  refine cd (fun hgt => ?_) fun hgt => ?_
  · refine Put.intro o1 (by rw [r1]; exact Nat.one_pos) fun h4 d4 => Put.intro (d4.ow o2) (by rw [d4.at_ (by omega) (by omega), r2]; exact Nat.one_pos) fun h5 d5 => ?_
    have e1 : rd h5 h.size = [.slice none 0 0] := by rw [d5.at_ (by have := d4.size; omega) (by omega), d4.rd, r1]; rfl
    have e2 : rd h5 (h.size + 1) = [.int .i64 130] := by rw [d5.rd, d4.at_ (by omega) (by omega), r2]; rfl
    refine ⟨_, _, _, rdc e1 rfl, _, rdc e2 rfl, hN (by rw [compA, if_neg (by omega)]) h5 (((n2.fr.new n3).did d4 fun x => by omega).did d5 fun x => by omega)⟩
  · refine New.intro fun h6 n6 => path_pieces.ok (New.intro fun h7 n7 => ⟨_, rfl, fun R rounds => ?_⟩)
    have s6 := n6.size
    have s7 := n7.size
    have e3 : h3.size = h.size + 2 := by omega
    have e6 : h6.size = h.size + 3 := by omega
    have e7 : h7.size = h.size + 4 := by omega
    rw [e7] at rounds ⊢
    rw [e3] at rounds ⊢
    rw [e6]
    have F7 : Fr No h h7 := ((n2.fr.new n3).new n6).new n7
    have q : ∀ b, b < h3.size → rd h7 b = rd h3 b := fun b hb => (n7.at_ (by omega)).trans (n6.at_ hb)
    have Fb := beginL_fr h7 R
    have on0 := beginL_on h7 R
    have d0 := beginL_d h7 R
    rw [e7] at on0 d0
    have r6 : rd h7 (h.size + 2) = [.slice none 0 0] := by have := n6.rd; rw [e3] at this; exact (n7.at_ (by omega)).trans this
    have o6 : Own h7 (h.size + 2) := by have := n6.own; rw [e3] at this; exact n7.ow this
    have r7 : rd h7 (h.size + 3) = [.string (mkStr s)] := by have := n7.rd; rw [e6] at this; exact this
    have fb : ∀ b, b < h7.size → rd (beginL h7 R) b = rd h7 b := fun b hb => Fb.rd hb fun x => x
    have B0 : Bs h s (beginL h7 R) := by
      refine ⟨F7.no Fb, by rw [beginL_size]; omega, Fb.own (by omega) (fun x => x) (n7.ow (n6.ow o1)), ?_, Fb.own (by omega) (fun x => x) (n7.ow (n6.ow o2)), ?_, Fb.own (by omega) (fun x => x) o6, ?_, ?_, d0⟩
      · rw [fb _ (by omega), q _ (by omega), r1]; rfl
      · rw [fb _ (by omega), q _ (by omega), r2]; rfl
      · rw [fb _ (by omega), r6]; rfl
      · rw [fb _ (by omega)]; exact r7
    have J0 : Js h s R [] (beginL h7 R) := ⟨B0, on0, rfl, none, 0, by rw [fb _ (by omega), r6]; rfl, Sl.nil _ _ _⟩
    show C.path_pieces_c1 (.func (.yield (h.size + 4 + 1)) #[] #[]) (some ⟨h.size + 3, 0, none⟩) (beginL h7 R) _
    refine iter_spec (s := s) hl (Js h s R) (fun pre hh J => J.b.r4) (fun pre x rest hh J hp => ?_) J0 fun hh J => ?_
    · -- a round
      have B := J.b
      have hs := B.size
      refine rounds (mkStr x) hh _ J.on ⟨J.on, setL_intro (by omega) fun h9 t9 => ?_⟩
      have z9 := t9.size
      have B9 := B.step t9.fr fun b e => Or.inl e
      obtain ⟨a, c, r3, S3⟩ := J.l
      have r3' : rd h9 (h.size + 2) = [.slice a (noDot pre).length c] := (t9.fr.rd (by omega) (by omega)).trans r3
      have S9 : Sl h9 1 a (noDot pre).length c (strs (noDot pre)) (From (h.size + 6)) := S3.fr t9.fr fun b _ hb e => by have hb : h.size + 6 ≤ b := hb; omega
      have hfit := J.fit
      -- the round says that it is too much
      have stop : fits (noDot (pre ++ [x])) = false → ∀ {K' : Heap → Prop}, (∀ h11, Bs h s h11 → LoopOn h11 (h.size + 5) R .busy none → rd h11 h.size = [.slice none 0 0] → rd h11 (h.size + 1) = [.int .i64 130] → K' h11) →
          Put ⟨h.size, 0, none⟩ (.slice none 0 0) h9 fun h10 => Put ⟨h.size + 1, 0, none⟩ (.int .i64 130) h10 K' := by
        intro _ K' hk
        refine Put.intro B9.o1 (by rw [B9.l1]; exact Nat.one_pos) fun h10 d10 => ?_
        obtain ⟨B10, e10⟩ := B9.wrote (k := 0) (by omega) d10
        refine Put.intro B10.o2 (by rw [B10.l2]; exact Nat.one_pos) fun h11 d11 => ?_
        obtain ⟨B11, e11⟩ := B10.wrote (k := 1) (by omega) d11
        exact hk h11 B11 (loopOn_fr (loopOn_fr t9.on d10.fr (by omega)) d11.fr (by omega)) ((d11.at_ (by have := B10.size; omega) (by omega)).trans e10) e11
      -- the loop is left
      have leave : fits (noDot (pre ++ [x])) = false → ∀ h11, Bs h s h11 → LoopOn h11 (h.size + 5) R .busy none → rd h11 h.size = [.slice none 0 0] → rd h11 (h.size + 1) = [.int .i64 130] →
          SetL (setLoop h11 (h.size + 5) R .done (some .ret)) (h.size + 5) R .exhausted (some .ret) fun h22 => EndD (h.size + 4) h22 fun h23 =>
            ∃ (resA3 : Option Addr) (resL3 : Nat) (resC3 : Nat), cellOf h23 ⟨h.size, 0, none⟩ = some (.slice resA3 resL3 resC3) ∧
            ∃ (res3 : Int), cellOf h23 ⟨h.size + 1, 0, none⟩ = some (.int .i64 res3) ∧ K (.tuple #[.slice resA3 resL3 resC3, .int .i64 res3]) h23 := by
        intro hf h11 B11 on11 e1 e2
        have z11 := B11.size
        have t12 := turned (show h.size + 5 < h11.size by omega) R .done (some .ret)
        have z12 := t12.size
        have B12 := B11.step t12.fr fun b e => Or.inl e
        refine setL_intro (by omega) fun h22 t22 => ?_
        have z22 := t22.size
        have B22 := B12.step t22.fr fun b e => Or.inl e
        refine endD_intro B22.d fun h23 z23 f23 => ?_
        have e1' : rd h23 h.size = [.slice none 0 0] := (f23.rd (by omega) (by omega)).trans ((t22.fr.rd (by omega) (by omega)).trans ((t12.fr.rd (by omega) (by omega)).trans e1))
        have e2' : rd h23 (h.size + 1) = [.int .i64 130] := (f23.rd (by omega) (by omega)).trans ((t22.fr.rd (by omega) (by omega)).trans ((t12.fr.rd (by omega) (by omega)).trans e2))
        refine ⟨_, _, _, rdc e1' rfl, _, rdc e2' rfl, hN ?_ h23 (B22.fr.trans f23 fun b hb e => by omega)⟩
        have hc : comps s = noDot (pre ++ [x]) ++ noDot rest := by rw [comps, hp, noDot_split]
        rw [compA, hc, fits_false_append hf]
        split <;> rfl
      rw [toList_mkStr, toList_mkStr, size_mk]
      cases hx : (x == [46]) with
      | true =>
        rw [beq_iff_eq] at hx
        have t10 := turned (show h.size + 5 < h9.size by omega) R .ready none
        refine ⟨t9.on, .inl ⟨rfl, B9.step t10.fr fun b e => Or.inl e, t10.on, ?_, ?_⟩⟩
        · rw [noDot_append, if_pos hx]; exact hfit
        · rw [noDot_append, if_pos hx]
          exact ⟨a, c, (t10.fr.rd (by omega) (by omega)).trans r3', S9.fr t10.fr fun b _ hb e => by have hb : h.size + 6 ≤ b := hb; omega⟩
      | false =>
        have hx' : x ≠ [46] := fun e => by rw [e] at hx; cases hx
        refine cd (fun hg => ?_) fun hg => ?_
        · have hf : fits (noDot (pre ++ [x])) = false := by
            rw [noDot_append, if_neg hx', fits, List.all_append, List.all_cons, decide_eq_false (by omega)]; simp
          exact stop hf fun h11 B11 on11 e1 e2 => ⟨on11, .inr ⟨rfl, .done, some .ret, setLoop_on (by have := B11.size; omega) R _ _, by decide, leave hf h11 B11 on11 e1 e2⟩⟩
        · refine ⟨_, _, _, rdc r3' rfl, ce (fun h32 => ?_) fun h32 => ?_⟩
          · have hf : fits (noDot (pre ++ [x])) = false := by
              rw [noDot_append, if_neg hx', fits, decide_eq_false (by rw [List.length_append, List.length_singleton]; omega), Bool.and_false]
            exact stop hf fun h11 B11 on11 e1 e2 => ⟨on11, .inr ⟨rfl, .done, some .ret, setLoop_on (by have := B11.size; omega) R _ _, by decide, leave hf h11 B11 on11 e1 e2⟩⟩
          · have hle : (noDot pre).length ≤ 32 := by
              rw [fits, Bool.and_eq_true, decide_eq_true_eq] at hfit; exact hfit.2
            refine ⟨_, _, _, rdc r3' rfl, New.intro fun h14 n14 => ⟨strs [x], rfl, cellsAll n14.rd, by intro v hv; rw [List.mem_singleton.mp hv]; rfl, ?_⟩⟩
            have z14 := n14.size
            have S14 := S9.fr n14.fr fun _ _ _ x => x
            have B14 := B9.step n14.fr fun b e => e.elim
            refine append_own S14 rfl rfl (by have b16 : ti9.bytes ≤ 16 := (by decide); have := Nat.mul_le_mul (show (noDot pre).length + 1 ≤ 40 from (by omega)) b16; exact Nat.le_trans this (by decide)) (by omega) fun a' c' h15 f15 S15 => ?_
            have B15 := B14.step f15 fun b e => Or.inr e
            have on15 := loopOn_fr (loopOn_fr t9.on n14.fr fun x => x) f15 fun e => by have e : h.size + 6 ≤ h.size + 5 := e; omega
            refine Put.intro B15.o3 (by rw [B15.l3]; exact Nat.one_pos) fun h16 d16 => ?_
            obtain ⟨B16, e16⟩ := B15.wrote (k := 2) (by omega) d16
            have z16 := B16.size
            have t17 := turned (show h.size + 5 < h16.size by omega) R .ready none
            have ed : noDot (pre ++ [x]) = noDot pre ++ [x] := by rw [noDot_append, if_neg hx']
            refine ⟨loopOn_fr on15 d16.fr (by omega), .inl ⟨rfl, B16.step t17.fr fun b e => Or.inl e, t17.on, ?_, a', c', ?_, ?_⟩⟩
            · rw [ed, fits, List.all_append, List.all_cons, decide_eq_true (show x.length ≤ 27 by omega), decide_eq_true (show (noDot pre ++ [x]).length ≤ 32 by rw [List.length_append, List.length_singleton]; omega)]
              rw [fits, Bool.and_eq_true] at hfit
              rw [hfit.1]; rfl
            · rw [ed, List.length_append, List.length_singleton]
              exact (t17.fr.rd (by omega) (by omega)).trans e16
            · rw [ed, List.length_append, List.length_singleton]
              have S15 : Sl h15 1 a' ((noDot pre).length + 1) c' (strs (noDot pre ++ [x])) (fun b => From (h.size + 6) b ∨ h14.size ≤ b) := by
                rw [strs, List.map_append]; exact S15
              have S15' := S15.mono (G := From (h.size + 6)) fun b hb => by
                rcases hb with hb | hb
                · exact hb
                · show h.size + 6 ≤ b; omega
              exact (S15'.fr d16.fr fun b _ hb e => by have hb : h.size + 6 ≤ b := hb; omega).fr t17.fr fun b _ hb e => by have hb : h.size + 6 ≤ b := hb; omega
    · -- all have come
      have B := J.b
      have hs := B.size
      obtain ⟨a, c, r3, S3⟩ := J.l
      refine ⟨.ready, none, J.on, by decide, ?_⟩
      refine pend_none (setL_intro (by omega) fun h18 t18 => ?_)
      have z18 := t18.size
      have B18 := B.step t18.fr fun b e => Or.inl e
      have S18 : Sl h18 1 a (comps s).length c (strs (comps s)) (From (h.size + 6)) := S3.fr t18.fr fun b _ hb e => by have hb : h.size + 6 ≤ b := hb; omega
      refine ⟨_, _, _, rdc ((t18.fr.rd (by omega) (by omega)).trans r3) rfl, ?_⟩
      refine Put.intro B18.o1 (by rw [B18.l1]; exact Nat.one_pos) fun h19 d19 => ?_
      obtain ⟨B19, e19⟩ := B18.wrote (k := 0) (by omega) d19
      refine Put.intro B19.o2 (by rw [B19.l2]; exact Nat.one_pos) fun h20 d20 => ?_
      obtain ⟨B20, e20⟩ := B19.wrote (k := 1) (by omega) d20
      have z19 := d19.size
      have z20 := d20.size
      refine endD_intro B20.d fun h21 z21 f21 => ?_
      have e1 : rd h21 h.size = [.slice a (comps s).length c] := (f21.rd (by omega) (by omega)).trans ((d20.at_ (by omega) (by omega)).trans e19)
      have e2 : rd h21 (h.size + 1) = [.int .i64 0] := (f21.rd (by omega) (by omega)).trans e20
      refine ⟨_, _, _, rdc e1 rfl, _, rdc e2 rfl, ?_⟩
      have far : ∀ b, b < h18.size → From (h.size + 6) b → ¬ b = h.size ∧ ¬ b = h.size + 1 ∧ ¬ b = h.size + 4 := fun b _ hb => by have hb : h.size + 6 ≤ b := hb; omega
      refine hK (comps s) ?_ a c h21 (B20.fr.trans f21 fun b hb e => by omega) ?_
      · rw [compA, if_pos (by omega), if_pos (show fits (comps s) = true from J.fit)]
      · exact (((S18.fr d19.fr fun b hb h e => by have h : _ ≤ b := h; omega).fr d20.fr fun b hb h e => by have h : _ ≤ b := h; omega).fr f21 fun b hb h e => by have h : _ ≤ b := h; omega).mono fun b hb => by have hb : h.size + 6 ≤ b := hb; show h.size ≤ b; omega
/-- what Parse and Text answer -/
def parseA (s : Txt) (isPath : Bool) : List Txt × Int := if wrongB s isPath = true then ([], 1) else match compA s with | none => ([], 130) | some cs => (cs, 0)
/-- a list of texts that is answered: the empty one may be nil -/
def Ls (h0 h : Heap) (ps : List Txt) (a : Option Addr) (l c : Nat) : Prop := l = ps.length ∧ Sl h 1 a l c (strs ps) (From h0.size)
theorem ls_nil (h0 h : Heap) : Ls h0 h [] none 0 0 := ⟨rfl, Sl.nil _ _ _⟩
theorem Parse_spec {s : Txt} {h : Heap} {K : Value → Heap → Prop} (hl : s.length ≤ 9223372036854775806) (hK : ∀ a l c h', Fr No h h' → Ls h h' (parseA s true).1 a l c → K (.tuple #[.slice a l c, .int .i64 (parseA s true).2]) h') : C.path_Parse (mkStr s) h K := by
  refine path_Parse.ok (wrong_spec ⟨_, rfl, ?_⟩)
  cases hw : wrongB s true with
  | true =>
    have e : parseA s true = ([], 1) := by rw [parseA, if_pos hw]
    rw [e] at hK
    exact hK none 0 0 h (Fr.refl _ _) (ls_nil _ _)
  | false =>
    refine components_spec hl (fun hc h' f => ?_) fun cs hc a c h' f S => ?_
    · have e : parseA s true = ([], 130) := by rw [parseA, if_neg (by rw [hw]; simp), hc]
      rw [e] at hK
      exact ⟨_, _, _, _, rfl, hK none 0 0 h' f (ls_nil _ _)⟩
    · have e : parseA s true = (cs, 0) := by rw [parseA, if_neg (by rw [hw]; simp), hc]
      rw [e] at hK
      exact ⟨_, _, _, _, rfl, hK a _ c h' f ⟨rfl, S⟩⟩
theorem Text_spec {s : Txt} {h : Heap} {K : Value → Heap → Prop} (hl : s.length ≤ 9223372036854775806) (hK : ∀ a l c h', Fr No h h' → Ls h h' (parseA s false).1 a l c →
    K (.tuple #[.slice a l c, .bool (decide ((parseA s false).2 = 0) && s.head? == some 47), .int .i64 (parseA s false).2]) h') : C.path_Text (mkStr s) h K := by
  refine path_Text.ok (wrong_spec ⟨_, rfl, ?_⟩)
  cases hw : wrongB s false with
  | true =>
    have e : parseA s false = ([], 1) := by rw [parseA, if_pos hw]
    rw [e] at hK
    exact hK none 0 0 h (Fr.refl _ _) (ls_nil _ _)
  | false =>
    refine components_spec hl (fun hc h' f => ?_) fun cs hc a c h' f S => ?_
    · have e : parseA s false = ([], 130) := by rw [parseA, if_neg (by rw [hw]; simp), hc]
      rw [e] at hK
      exact ⟨_, _, _, _, rfl, ct rfl (hK none 0 0 h' f (ls_nil _ _))⟩
    · have e : parseA s false = (cs, 0) := by rw [parseA, if_neg (by rw [hw]; simp), hc]
      rw [e] at hK
      cases s with
      | nil => rw [show wrongB [] false = true from rfl] at hw; cases hw
      | cons b r =>
        refine ⟨_, _, _, _, rfl, cf rfl ⟨⟨by decide, by rw [size_mk]; show (0 : Int) < ((r.length + 1 : Nat) : Int); omega⟩, b, by rw [toList_mkStr]; rfl, ?_⟩⟩
        have e2 : (((UInt8.toNat b : Nat) : Int) == 47) = (decide ((cs, (0 : Int)).2 = 0) && (b :: r).head? == some 47) := by
          show _ = (some b == some 47)
          rw [Bool.eq_iff_iff, beq_iff_eq, beq_iff_eq]
          constructor
          · intro h; exact congrArg some (UInt8.toNat_inj.mp (show b.toNat = 47 by omega))
          · intro h; rw [Option.some.inj h]; rfl
        rw [e2]
        exact hK a _ c h' f ⟨rfl, S⟩
/-- the two dots -/
def isDots (p : Txt) : Bool := p == [46] || p == [46, 46]
theorem does2_spec {ss : Txt} {h : Heap} {K : Value → Heap → Prop} (hK : ∀ h' v, Fr No h h' → (ss = [46] → v = .func (.func 72) #[] #[]) → (ss = [46, 46] → v = .func (.func 73) #[] #[]) → K (.tuple #[v, .bool (isDots ss)]) h') : C.path_does (mkStr ss) h K := by
  refine path_does.ok ?_
  unfold path_does
  simp only [toList_mkStr]
  refine NewM.intro (d := .str) fun h2 f2 s2 m2 => ⟨[], m2, fun h3 m3 => ⟨_, m3.at_, fun h4 m4 => ⟨_, m4.at_, _, rfl, ?_⟩⟩⟩
  have f4 : Fr No h h4 := (f2.trans (mapTo_fr m3) fun b hb e => by omega).trans (mapTo_fr m4) fun b hb e => by omega
  generalize hm : mget _ (MKey.s ss) = o
  have ho : o = (bif ss == [46] then some (.func (.func 72) #[] #[]) else bif ss == [46, 46] then some (.func (.func 73) #[] #[]) else none) := hm.symm
  subst ho
  by_cases h1 : ss = [46]
  · subst h1
    exact hK h4 _ f4 (fun _ => rfl) fun e => by cases e
  · have e1 : (ss == [46]) = false := beq_eq_false_iff_ne.mpr h1
    rw [e1]
    by_cases h2 : ss = [46, 46]
    · subst h2
      exact hK h4 _ f4 (fun e => by cases e) fun _ => rfl
    · have e2 : (ss == [46, 46]) = false := beq_eq_false_iff_ne.mpr h2
      rw [e2]
      have := hK h4 (Option.getD none (zeroV ti97)) f4 (fun e => absurd e h1) fun e => absurd e h2
      rw [isDots, e1, e2] at this
      exact this
end Go.Proofs.Ytgpkcakanieodaa.Pa
