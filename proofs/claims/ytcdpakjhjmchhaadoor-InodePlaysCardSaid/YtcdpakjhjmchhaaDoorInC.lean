/-
  THE DOCUMENT'S OWN RECORDS (boleref11).
-/
import Derived.Test.YtcdpakjhjmchhaaDoorInB
namespace Go.Proofs.YtcdpakjhjmchhaaDoor.In
open Go Go.Proofs Go.Proofs.YtcdpakjhjmchhaaDoor.Wx Go.Proofs.YtcdpakjhjmchhaaDoor.Hp Go.Proofs.YtcdpakjhjmchhaaDoor.W Go.Proofs.YtcdpakjhjmchhaaDoor.Su Go.Proofs.YtcdpakjhjmchhaaDoor.Re Go.Proofs.YtcdpakjhjmchhaaDoor.Hd

theorem append_from {elem : TI} {e : Nat} {a : Option Addr} {l c n : Nat} {xs new : List Value} {h0 h : Heap} {k : Option Addr → Nat → Nat → Heap → Prop} (f : Fr No h0 h)
    (s : Sl h elem.cells a l c xs (From h0.size)) (hn : new.length = n * elem.cells) (hz : elem.zero.length = elem.cells) (hb : (l + n) * elem.bytes ≤ 140737488355328) (hb' : l + n ≤ 140737488355328)
    (hk : ∀ a' c' h', Fr No h0 h' → Sl h' elem.cells a' (l + n) c' (xs ++ new) (From h0.size) → k a' (l + n) c' h') :
    AppendP elem e a l c n new h k := by
  have hs := f.size
  refine append_own s hn hz hb hb' fun a' c' h' f' s' => hk a' c' h' (f.trans f' fun b hb e => by have : h0.size ≤ b := e; omega) (s'.mono fun b hb => ?_)
  rcases hb with hb | hb
  · exact hb
  · show h0.size ≤ b; omega
theorem bv_nat (m : Nat) : (Value.int .u8 (IntKind.wrap .u8 (m : Int))) = bv (UInt8.ofNat m) := by
  rw [bv_wrap]
  congr 1
  apply UInt8.toNat_inj.mp
  rw [UInt8.toNat_ofNat', UInt8.toNat_ofNat']; omega
theorem bv_mod {n : Int} (h0 : 0 ≤ n) : (Value.int .u8 (IntKind.wrap .u8 (Int.tmod n 256))) = bv (UInt8.ofNat n.toNat) := by
  have e : Int.tmod n 256 = ((n.toNat % 256 : Nat) : Int) := by rw [Int.tmod_eq_emod_of_nonneg h0]; omega
  rw [e, bv_nat]
  congr 1
  apply UInt8.toNat_inj.mp
  rw [UInt8.toNat_ofNat', UInt8.toNat_ofNat']; omega
theorem rwithin_spec {v lo hi : Int} {h : Heap} {K : Value → Heap → Prop} (hK : K (.bool (decide (lo ≤ v) && decide (v ≤ hi))) h) : C.boleref11_within v lo hi h K := by
  refine boleref11_within.ok (cd (fun x => ?_) fun x => ?_)
  · rw [decide_eq_true (show lo ≤ v from x)] at hK; exact hK
  · rw [decide_eq_false (show ¬ lo ≤ v from x)] at hK; exact hK
theorem cell15' {h : Heap} {b : Nat} {R : List Int} (r : rd h b = ints R) {i : Nat} (hi : 3 + i < R.length) : cellOf h (Addr.add (Addr.add ⟨b, 0, none⟩ 3) i) = some (.int .i64 (R.getD (3 + i) 0)) := by
  rw [add_mk]
  refine rda r ?_
  rw [Nat.zero_add, ints, List.getElem?_map, List.getD_eq_getElem?_getD, List.getElem?_eq_getElem hi]; rfl
theorem all_words {R : List Int} (hR : R.length = 15) : (R.drop 3).all wordOk = true ↔ ∀ j, j < 12 → wordOk (R.getD (3 + j) 0) = true := by
  have e : ∀ j (hj : j < (R.drop 3).length), (R.drop 3)[j] = R.getD (3 + j) 0 := fun j hj => by
    have : 3 + j < R.length := by rw [List.length_drop] at hj; omega
    rw [List.getElem_drop, List.getD_eq_getElem?_getD, List.getElem?_eq_getElem this]; rfl
  have ld : (R.drop 3).length = 12 := by rw [List.length_drop, hR]
  constructor
  · intro h j hj
    rw [← e j (by omega)]
    exact List.all_eq_true.mp h _ (List.getElem_mem _)
  · intro h
    refine List.all_eq_true.mpr fun x hx => ?_
    obtain ⟨j, hj, rfl⟩ := List.mem_iff_getElem.mp hx
    rw [e j hj]; exact h j (by omega)
theorem bad_word {R : List Int} (hR : R.length = 15) {j : Nat} (hj : j < 12) (h : wordOk (R.getD (3 + j) 0) = false) : mayR R = false := by
  cases e : (R.drop 3).all wordOk with
  | false => rw [mayR, e]; rfl
  | true => rw [(all_words hR).mp e j hj] at h; cases h
theorem rMay_k1 {R : List Int} {h1 h : Heap} {K : Value → Heap → Prop} (hR : R.length = 15) (hw : (R.drop 3).all wordOk = true) (r3 : rd h h1.size = ints R) (hK : K (.bool (mayR R)) h) : boleref11_May.k1 h1 h K := by
  have em : mayR R = kindOk (R.getD 0 0) (R.getD 1 0) (R.getD 2 0) R := by rw [mayR, hw, Bool.true_and]
  rw [em] at hK
  unfold kindOk at hK
  refine ⟨_, cell15 r3 (by omega), ce (fun h0 => ?_) fun h0 => ?_⟩
  · rw [if_pos h0] at hK
    refine ⟨ints R, by rw [ints_length, hR], cellsAll r3, pairs15 hR (S := z15) List.length_replicate, ?_⟩
    rw [show ([.int .i64 0, .int .i64 0, .int .i64 0, .int .i64 0, .int .i64 0, .int .i64 0, .int .i64 0, .int .i64 0, .int .i64 0, .int .i64 0, .int .i64 0, .int .i64 0, .int .i64 0, .int .i64 0, .int .i64 0] : List Value) = ints z15 from rfl, ints_eq]
    exact hK
  · rw [if_neg h0] at hK
    refine ce (fun h1 => ?_) fun h1 => ?_
    · rw [if_pos h1] at hK
      refine ⟨_, cell15 r3 (by omega), rwithin_spec ⟨_, rfl, ?_⟩⟩
      cases hb : (decide (0 ≤ R.getD 1 0) && decide (R.getD 1 0 ≤ 1000)) with
      | false => rw [hb] at hK; exact hK
      | true => rw [hb] at hK; exact ⟨_, cell15 r3 (by omega), rwithin_spec ⟨_, rfl, hK⟩⟩
    · rw [if_neg h1] at hK
      refine ce (fun h2' => ?_) fun h2' => ?_
      · rw [if_pos h2'] at hK
        refine ⟨_, cell15 r3 (by omega), rwithin_spec ⟨_, rfl, ?_⟩⟩
        cases hb : (decide (2 ≤ R.getD 1 0) && decide (R.getD 1 0 ≤ 65535)) with
        | false => rw [hb] at hK; exact hK
        | true =>
          rw [hb, Bool.true_and] at hK
          refine ⟨_, cell15 r3 (by omega), rwithin_spec ⟨_, rfl, ?_⟩⟩
          cases hc : (decide (0 ≤ R.getD 2 0) && decide (R.getD 2 0 ≤ 8459264)) with
          | false => rw [hc] at hK; exact hK
          | true =>
            rw [hc, Bool.true_and] at hK
            rw [Bool.and_eq_true, decide_eq_true_eq] at hc
            refine ⟨_, cell15 r3 (by omega), ?_⟩
            have e : (Int.tmod (R.getD 2 0) 512 == 0) = decide (R.getD 2 0 % 512 = 0) := by rw [Int.tmod_eq_emod_of_nonneg hc.1]; rfl
            rw [e]; exact hK
      · rw [if_neg h2'] at hK
        refine ce (fun h3' => ?_) fun h3' => ?_
        · rw [if_pos h3'] at hK
          refine ⟨_, cell15 r3 (by omega), rwithin_spec ⟨_, rfl, ?_⟩⟩
          cases hb : (decide (1 ≤ R.getD 1 0) && decide (R.getD 1 0 ≤ 1000)) with
          | false => rw [hb] at hK; exact hK
          | true => rw [hb] at hK; exact ⟨_, cell15 r3 (by omega), rwithin_spec ⟨_, rfl, hK⟩⟩
        · rw [if_neg h3'] at hK; exact hK
theorem rMay_spec {R : List Int} {h : Heap} {K : Value → Heap → Prop} (hR : R.length = 15) (hK : ∀ h', Fr No h h' → K (.bool (mayR R)) h') : C.boleref11_May (ints R) h K := by
  refine boleref11_May.ok (New.intro fun h2 n2 => ?_)
  have hK := hK h2 n2.fr
  refine ⟨fun i hh => 0 ≤ i ∧ i ≤ 10 ∧ h2 = hh ∧ ∀ j, j < i.toNat → wordOk (R.getD (3 + j) 0) = true, fun i _ => ((10 : Nat) - i).toNat, ⟨by omega, by omega, rfl, fun j hj => absurd hj (Nat.not_lt_zero _)⟩, ?_⟩
  rintro i _ ⟨i0, i1, rfl, q⟩
  have bad : ∀ j, j < 12 → wordOk (R.getD (3 + j) 0) = false → K (.bool false) h2 := fun j hj e => by
    rw [bad_word hR hj e] at hK; exact hK
  refine cd (fun hi => ?_) fun hi => ?_
  · have hi : i < 10 := hi
    refine ⟨⟨i0, hi⟩, _, cell15' n2.rd (by omega), rwithin_spec ⟨_, rfl, cnot ?_⟩⟩
    cases hw : wordOk (R.getD (3 + i.toNat) 0) with
    | false => exact cf hw (bad i.toNat (by omega) hw)
    | true =>
      rw [wrap_i64 (by omega) (by omega)]
      refine ct hw ⟨⟨by omega, by omega, rfl, fun j hj => ?_⟩, falls (m := 10) hi⟩
      by_cases e : j < i.toNat
      · exact q j e
      · have : j = i.toNat := by omega
        rw [this]; exact hw
  · have hi : ¬ i < 10 := hi
    have ei : i.toNat = 10 := by omega
    rw [ei] at q
    refine ⟨_, cell15 n2.rd (by omega), rwithin_spec ⟨_, rfl, cnot ?_⟩⟩
    cases hw : wordOk (R.getD 13 0) with
    | false => exact cf hw (bad 10 (by omega) hw)
    | true =>
      refine ct hw ⟨_, cell15 n2.rd (by omega), rwithin_spec ⟨_, rfl, cnot ?_⟩⟩
      cases hx : wordOk (R.getD 14 0) with
      | false => exact cf hx (bad 11 (by omega) hx)
      | true =>
        refine ct hx (rMay_k1 hR ((all_words hR).mpr fun j hj => ?_) n2.rd hK)
        by_cases e : j < 10
        · exact q j e
        · by_cases e' : j = 10
          · subst e'; exact hw
          · have : j = 11 := by omega
            subst this; exact hx
theorem leB_snoc (k v : Nat) : leB (k + 1) v = leB k v ++ [UInt8.ofNat (v / 256 ^ k)] := by
  rw [leB, List.range_succ, List.map_append]; rfl
theorem low_spec {n : Int} {k : Nat} {h : Heap} {K : Value → Heap → Prop} (h0 : 0 ≤ n) (h1 : n ≤ 9223372036854775807) (hk : k ≤ 8)
    (hK : ∀ a' c' h', Fr No h h' → Sl h' 1 a' k c' ((leB k n.toNat).map bv) (From h.size) → K (.slice a' k c') h') : C.boleref11_low n (k : Int) h K := by
  refine boleref11_low.ok ⟨fun m a l c i hh => 0 ≤ i ∧ i ≤ k ∧ l = i.toNat ∧ 0 ≤ m ∧ m ≤ 9223372036854775807 ∧ m.toNat = n.toNat / 256 ^ i.toNat ∧ Fr No h hh ∧ Sl hh 1 a l c ((leB i.toNat n.toNat).map bv) (From h.size), fun _ _ _ _ i _ => ((k : Nat) - i).toNat,
    ⟨by omega, by omega, rfl, h0, h1, by show _ = _ / 256 ^ 0; omega, Fr.refl _ _, Sl.nil _ _ _⟩, ?_⟩
  rintro m a l c i h2 ⟨i0, i1, rfl, m0, m1, em, f2, s2⟩
  refine cd (fun hi => ?_) fun hi => ?_
  · have hi : i < k := hi
    refine New.intro fun h3 n3 => ⟨[bv (UInt8.ofNat m.toNat)], rfl, cellsAll (by rw [n3.rd, bv_mod m0]), bv_one [UInt8.ofNat m.toNat], append_from (f2.new n3) (s2.fr n3.fr fun _ _ _ x => x) rfl rfl (by show (i.toNat + 1) * 1 ≤ _; omega) (by omega) fun a' c' h4 f4 s4 => ?_⟩
    have ed : Int.tdiv m 256 = m / 256 := Int.tdiv_eq_ediv_of_nonneg m0
    rw [ed, wrap_i64 (n := m / 256) (by omega) (by omega), wrap_i64 (by omega) (by omega)]
    refine ⟨⟨by omega, by omega, by omega, by omega, by omega, ?_, f4, ?_⟩, falls (m := k) hi⟩
    · rw [show (i + 1).toNat = i.toNat + 1 by omega, Nat.pow_succ, ← Nat.div_div_eq_div_mul, ← em]; omega
    · rw [show (i + 1).toNat = i.toNat + 1 by omega, leB_snoc, ← em, List.map_append]; exact s4
  · have hi : ¬ i < k := hi
    have : i.toNat = k := by omega
    rw [this] at s2 ⊢
    exact hK a c h2 f2 s2
theorem low_app {n : Int} {k l c : Nat} {a : Option Addr} {xs : List UInt8} {h0 h : Heap} {K : Option Addr → Nat → Nat → Heap → Prop} (hn : 0 ≤ n) (hn' : n ≤ 9223372036854775807) (hk : k ≤ 8) (hl : l + k ≤ 1000) (f : Fr No h0 h)
    (s : Sl h 1 a l c (xs.map bv) (From h0.size)) (hK : ∀ a' c' h', Fr No h0 h' → Sl h' 1 a' (l + k) c' ((xs ++ leB k n.toNat).map bv) (From h0.size) → K a' (l + k) c' h') :
    C.boleref11_low n (k : Int) h fun r1 h4 => ∃ (sA1 : Option Addr) (sL1 : Nat) (sC1 : Nat), r1 = .slice sA1 sL1 sC1 ∧
      ∃ new1 : List Value, List.length new1 = sL1 * 1 ∧ SlCells h4 sA1 new1 ∧ (∀ v ∈ new1, v.oneCell' = true) ∧ AppendP ti5 5 a l c sL1 new1 h4 K := by
  refine low_spec hn hn' hk fun a' c' h' f' s' => ⟨_, _, _, rfl, _, by rw [List.length_map, leB_length, Nat.mul_one], s'.cells, bv_one _, ?_⟩
  refine append_from (f.no f') (s.fr f' fun _ _ _ x => x) (by rw [List.length_map, leB_length]; show k = k * 1; omega) rfl (by show (l + k) * 1 ≤ _; omega) (by omega) fun a2 c2 h2 f2 s2 => hK a2 c2 h2 f2 ?_
  rw [List.map_append]; exact s2
theorem rLaid_spec {R : List Int} {h : Heap} {K : Value → Heap → Prop} (hR : R.length = 15) (hm : mayR R = true)
    (hK : ∀ a' c' h', Fr No h h' → Sl h' 1 a' 64 c' ((encR R).map bv) (From h.size) → K (.slice a' 64 c') h') : C.boleref11_laid (ints R) h K := by
  obtain ⟨k0, k1, l0, l1, z0, z1, hw⟩ := mayR_bounds hR hm
  have hx : ∀ j, j < 12 → 0 ≤ R.getD (3 + j) 0 ∧ R.getD (3 + j) 0 ≤ 4294967295 := fun j hj => by
    have hj' : 3 + j < R.length := by omega
    have e : R.getD (3 + j) 0 = (R.drop 3)[j]'(by rw [List.length_drop]; omega) := by
      rw [List.getElem_drop, List.getD_eq_getElem?_getD, List.getElem?_eq_getElem hj']; rfl
    rw [e]; exact hw _ (List.getElem_mem _)
  have tk : ∀ j, j < 12 → (R.drop 3).take (j + 1) = (R.drop 3).take j ++ [R.getD (3 + j) 0] := fun j hj => by
    have hj' : 3 + j < R.length := by omega
    rw [List.take_succ_eq_append_getElem (by rw [List.length_drop]; omega), List.getElem_drop, List.getD_eq_getElem?_getD, List.getElem?_eq_getElem hj']; rfl
  have fk : ∀ j, j < 12 → flat4 ((R.drop 3).take (j + 1)) = flat4 ((R.drop 3).take j) ++ leB 4 (R.getD (3 + j) 0).toNat := fun j hj => by
    rw [tk j hj, flat4, List.flatMap_append]
    show _ ++ (leB 4 _ ++ []) = _
    rw [List.append_nil, flat4]
  refine boleref11_laid.ok (New.intro fun h2 n2 => ⟨_, cell15 n2.rd (by omega), New.intro fun h3 n3 => ?_⟩)
  have s2 := n2.size
  have s3 := n3.size
  have F3 := n2.fr.new n3
  have kd : ∀ {hq : Heap}, Fr No h2 hq → rd hq h.size = ints R := fun fq => (fq.rd n2.own.lt fun x => x).trans n2.rd
  have eK : (Value.int .u8 (IntKind.wrap .u8 (R.getD 0 0))) = bv (UInt8.ofNat (R.getD 0 0).toNat) := by
    rw [← bv_nat, Int.toNat_of_nonneg k0]
  have b3 : Sl h3 1 (some ⟨h2.size, 0, none⟩) 2 2 ((leB 1 (R.getD 0 0).toNat ++ [0]).map bv) (From h2.size) :=
    Sl.made (zs := []) n3 (by rw [leB_one, eK]; rfl) (Nat.le_refl _) (by rw [leB_one]; rfl) (Nat.le_refl _) rfl
  refine ⟨_, cell15 (kd n3.fr) (by omega), low_app (k := 2) l0 (by omega) (by omega) (by omega) n3.fr b3 fun a5 c5 h5 f5 s5 => ⟨_, cell15 (kd f5) (by omega), low_app (k := 4) z0 (by omega) (by omega) (by omega) f5 s5 fun a7 c7 h7 f7 s7 => ?_⟩⟩
  generalize hH : (leB 1 (R.getD 0 0).toNat ++ [0]) ++ leB 2 (R.getD 1 0).toNat ++ leB 4 (R.getD 2 0).toNat = H at s7
  have eH : encR R = H ++ (flat4 (R.drop 3) ++ zeros 8) := by rw [encR, ← hH]; simp only [List.append_assoc]
  clear hH
  refine ⟨fun a l c i hh => 0 ≤ i ∧ i ≤ 10 ∧ l = 8 + 4 * i.toNat ∧ Fr No h2 hh ∧ Sl hh 1 a l c ((H ++ flat4 ((R.drop 3).take i.toNat)).map bv) (From h2.size), fun _ _ _ i _ => ((10 : Nat) - i).toNat,
    ⟨by omega, by omega, rfl, f7, by show Sl h7 1 _ _ _ ((H ++ []).map bv) _; rw [List.append_nil]; exact s7⟩, ?_⟩
  rintro a8 l8 c8 i h8 ⟨i0, i1, rfl, f8, s8⟩
  refine cd (fun hi => ?_) fun hi => ?_
  · have hi : i < 10 := hi
    have hb := hx i.toNat (by omega)
    refine ⟨⟨i0, hi⟩, _, cell15' (kd f8) (by omega), low_app (k := 4) hb.1 (by omega) (by omega) (by omega) f8 s8 fun a9 c9 h9 f9 s9 => ?_⟩
    rw [wrap_i64 (by omega) (by omega)]
    refine ⟨⟨by omega, by omega, by omega, f9, ?_⟩, falls (m := 10) hi⟩
    rw [show (i + 1).toNat = i.toNat + 1 by omega, fk _ (by omega), ← List.append_assoc]; exact s9
  · have hi : ¬ i < 10 := hi
    have ei : i.toNat = 10 := by omega
    rw [ei] at s8 ⊢
    refine ⟨_, cell15 (kd f8) (by omega), low_app (k := 4) (hx 10 (by omega)).1 (Int.le_trans (hx 10 (by omega)).2 (by decide)) (by omega) (by omega) f8 s8 fun a9 c9 h9 f9 s9 => ?_⟩
    refine ⟨_, cell15 (kd f9) (by omega), low_app (k := 4) (hx 11 (by omega)).1 (Int.le_trans (hx 11 (by omega)).2 (by decide)) (by omega) (by omega) f9 s9 fun a10 c10 h10 f10 s10 => ?_⟩
    refine New.intro fun h11 n11 => ⟨(zeros 8).map bv, rfl, cellsAll n11.rd, bv_one _, append_from (f10.new n11) (s10.fr n11.fr fun _ _ _ x => x) rfl rfl (by decide) (by decide) fun a12 c12 h12 f12 s12 => ?_⟩
    refine hK a12 c12 h12 (n2.fr.no f12) ?_
    have e12 : R.drop 3 = (R.drop 3).take 12 := (List.take_of_length_le (by rw [List.length_drop]; omega)).symm
    rw [eH, e12, fk 11 (by omega), fk 10 (by omega)]
    rw [← List.map_append] at s12
    simp only [List.append_assoc] at s12 ⊢
    exact s12.mono fun b hb => by have : h2.size ≤ b := hb; show h.size ≤ b; omega
theorem rEncode_spec {R : List Int} {h : Heap} {K : Value → Heap → Prop} (hR : R.length = 15) (hN : mayR R = false → ∀ h', Fr No h h' → K (.tuple #[.slice none 0 0, .int .i64 111]) h')
    (hK : mayR R = true → ∀ a' c' h', Fr No h h' → Sl h' 1 a' 64 c' ((encR R).map bv) (From h.size) → K (.tuple #[.slice a' 64 c', .int .i64 0]) h') : C.boleref11_Encode (ints R) h K := by
  refine boleref11_Encode.ok (New.intro fun h2 n2 => ⟨ints R, by rw [ints_length, hR], cellsAll n2.rd, rMay_spec hR fun h3 f3 => ⟨_, rfl, cnot ?_⟩⟩)
  have s2 := n2.size
  have s3 := f3.size
  have F3 := n2.fr.no f3
  have r3 : rd h3 h.size = ints R := (f3.rd n2.own.lt fun x => x).trans n2.rd
  cases hm : mayR R with
  | false => exact hN hm h3 F3
  | true => exact ct rfl ⟨ints R, by rw [ints_length, hR], cellsAll r3, rLaid_spec hR hm fun a' c' h4 f4 s4 => ⟨_, _, _, rfl, hK hm a' c' h4 (F3.no f4) (s4.mono fun b hb => by have : h3.size ≤ b := hb; show h.size ≤ b; omega)⟩⟩
theorem number_spec {a : Option Addr} {l c : Nat} {bs : List UInt8} {h : Heap} {K : Value → Heap → Prop} (B : StrAt h a l bs) (hl : l ≤ 7) (hK : K (.int .i64 (leN bs : Int)) h) : C.boleref11_number a l c h K := by
  have hb := B.1
  refine boleref11_number.ok ?_
  unfold boleref11_number
  rw [wrap_i64 (by omega) (by omega)]
  refine ⟨fun n i hh => -1 ≤ i ∧ i < l ∧ h = hh ∧ n = (leN (bs.drop (i + 1).toNat) : Int), fun _ i _ => (i + 1).toNat, ⟨by omega, by omega, rfl, ?_⟩, ?_⟩
  · rw [show ((l : Int) - 1 + 1).toNat = bs.length by omega, List.drop_length]; rfl
  rintro n i _ ⟨i0, i1, rfl, rfl⟩
  refine cd (fun hi => ?_) fun hi => ?_
  · have hi : 0 ≤ i := hi
    have hib : i.toNat < bs.length := by omega
    obtain ⟨p, rfl, c5⟩ : ∃ p, a = some p ∧ cellOf h (p.add i.toNat) = some (bv bs[i.toNat]) := by
      obtain ⟨_, B2⟩ := B
      cases a with
      | none => have : bs.map bv = [] := B2; rw [List.map_eq_nil_iff] at this; rw [this] at hib; exact absurd hib (Nat.not_lt_zero _)
      | some p => exact ⟨p, rfl, Cells.cell B2 (by rw [List.getElem?_map, List.getElem?_eq_getElem hib]; rfl)⟩
    have ed : bs.drop i.toNat = bs[i.toNat] :: bs.drop (i + 1).toNat := by rw [show (i + 1).toNat = i.toNat + 1 by omega]; exact List.drop_eq_getElem_cons hib
    have lt1 := leN_lt (bs.drop i.toNat)
    have hp : 256 ^ (bs.drop i.toNat).length ≤ 256 ^ 7 := Nat.pow_le_pow_right (by decide) (by rw [List.length_drop]; omega)
    have el : leN (bs.drop i.toNat) = bs[i.toNat].toNat + 256 * leN (bs.drop (i + 1).toNat) := by rw [ed]; rfl
    have h7 : (256 : Nat) ^ 7 = 72057594037927936 := by decide
    have hbb := bs[i.toNat].toNat_lt
    refine ⟨⟨hi, i1⟩, os ⟨_, c5, ?_⟩⟩
    rw [wrap_i64 (n := (leN (bs.drop (i + 1).toNat) : Int) * 256) (by omega) (by omega), wrap_i64 (n := ((bs[i.toNat].toNat : Nat) : Int)) (by omega) (by omega), wrap_i64 (n := i - 1) (by omega) (by omega), wrap_i64 (by omega) (by omega)]
    refine ⟨⟨by omega, by omega, rfl, ?_⟩, by show (i - 1 + 1).toNat < (i + 1).toNat; omega⟩
    rw [show (i - 1 + 1).toNat = i.toNat by omega, el]; omega
  · have hi : ¬ 0 ≤ i := hi
    rw [show (i + 1).toNat = 0 by omega, List.drop_zero]; exact hK
theorem str_eq (xs ys : List UInt8) : ((mkStr xs).toList == (mkStr ys).toList) = decide (xs = ys) := by
  rw [toList_mkStr, toList_mkStr, Bool.eq_iff_iff, beq_iff_eq, decide_eq_true_eq]
theorem part_spec {a : Option Addr} {l c i j : Nat} {bs : List UInt8} {h : Heap} {K : Value → Heap → Prop} (B : StrAt h a l bs) (hlc : l ≤ c) (hij : i ≤ j) (hj : j ≤ l) (h7 : j - i ≤ 7) (hK : K (.int .i64 (getAt bs i (j - i) : Nat)) h) :
    C.boleref11_number (if c = i then a else Option.map (Addr.add · i) a) (j - i) (c - i) h K := number_spec (StrAt.cut B hlc hij hj) h7 hK
theorem rDecode_k1 {a : Option Addr} {c b : Nat} {bs : List UInt8} {h1 h2 h9 : Heap} {K : Value → Heap → Prop} (n2 : Newly h1 h2 (ints z15)) (B : StrAt h2 a 64 bs) (hc : 64 ≤ c) (f : Fr No h2 h9) (hb : h2.size ≤ b) (w : Own h9 b)
    (r : rd h9 b = ints ((getR bs).take 3 ++ (List.replicate 12 0 ++ []))) (hK : ∀ h', Fr No h1 h' → K (.tuple #[.agg ⟨ints (decA bs).1⟩, .int .i64 (decA bs).2]) h') : boleref11_Decode.k1 a 64 c h1 (some ⟨b, 0, none⟩) h9 K := by
  have hb64 : bs.length = 64 := B.1
  have gl := getR_length bs
  have s2 := n2.size
  refine ⟨fun i hh => 0 ≤ i ∧ i ≤ 10 ∧ Fr No h2 hh ∧ Own hh b ∧ rd hh b = ints ((getR bs).take (3 + i.toNat) ++ (List.replicate (12 - i.toNat) 0 ++ [])), fun i _ => ((10 : Nat) - i).toNat, ⟨by omega, by omega, f, w, r⟩, ?_⟩
  rintro i h10 ⟨i0, i1, f10, w10, r10⟩
  have ll : ∀ k, k ≤ 15 → (ints ((getR bs).take k ++ (List.replicate (15 - k) 0 ++ []))).length = 15 := fun k hk => by
    rw [ints_length, List.length_append, List.length_append, List.length_take, List.length_replicate, gl, List.length_nil]; omega
  have fill : ∀ (k : Nat) (hk : k < 15) (v : Int), (getR bs)[k]'(by omega) = v → (ints ((getR bs).take k ++ (List.replicate (15 - k) 0 ++ []))).set k (.int .i64 v) = ints ((getR bs).take (k + 1) ++ (List.replicate (15 - (k + 1)) 0 ++ [])) := fun k hk v e => by
    have := set_fill (getR bs) 0 [] k (15 - k) (by omega) (by omega)
    rw [e] at this
    rw [show 15 - (k + 1) = 15 - k - 1 by omega, ← this, ints, ints, List.map_set]
  have l10 : (rd h10 b).length = 15 := by
    have := ll (3 + i.toNat) (by omega)
    rw [r10, show 12 - i.toNat = 15 - (3 + i.toNat) by omega]; exact this
  refine cd (fun hi => ?_) fun hi => ?_
  · have hi : i < 10 := hi
    rw [wrap_i64 (n := 4 * i) (by omega) (by omega), wrap_i64 (n := 8 + 4 * i) (by omega) (by omega), wrap_i64 (n := 12 + 4 * i) (by omega) (by omega), wrap_i64 (n := i + 1) (by omega) (by omega)]
    refine ⟨⟨by omega, by omega, by omega⟩, part_spec (StrAt.fr f10 B fun _ _ x => x) hc (by omega) (by omega) (by omega) ⟨_, rfl, os ⟨⟨i0, hi⟩, ?_⟩⟩⟩
    rw [add_mk]
    refine Put.add w10 (by omega) fun h12 d12 => ⟨⟨by omega, by omega, f10.did d12 fun hlt => by omega, d12.own, ?_⟩, falls (m := 10) hi⟩
    have e := fill (3 + i.toNat) (by omega) _ (getR_get bs (i := i.toNat) (by omega) (by omega))
    rw [d12.rd, r10, show 0 + 3 + i.toNat = 3 + i.toNat by omega, show 12 - i.toNat = 15 - (3 + i.toNat) by omega, show 3 + (i + 1).toNat = 3 + i.toNat + 1 by omega, show 12 - (i + 1).toNat = 15 - (3 + i.toNat + 1) by omega, ← e,
      show (8 + 4 * i).toNat = 8 + 4 * i.toNat by omega, show (12 + 4 * i).toNat - (8 + 4 * i.toNat) = 4 by omega]
  · have hi : ¬ i < 10 := hi
    have ei : i.toNat = 10 := by omega
    rw [ei] at r10
    refine ⟨⟨by omega, by omega, by omega⟩, part_spec (StrAt.fr f10 B fun _ _ x => x) hc (by decide) (by decide) (by decide) ⟨_, rfl, os (Put.add w10 (by omega) fun h14 d14 => ?_)⟩⟩
    have e13 := fill 13 (by omega) _ (getR_get bs (i := 10) (by omega) (by omega))
    have r14 : rd h14 b = ints ((getR bs).take 14 ++ (List.replicate 1 0 ++ [])) := by rw [d14.rd, r10]; exact e13
    have f14 := f10.did d14 fun hlt => by omega
    refine ⟨⟨by omega, by omega, by omega⟩, part_spec (StrAt.fr f14 B fun _ _ x => x) hc (by decide) (by decide) (by decide) ⟨_, rfl, os (Put.add d14.own (by rw [r14, ll 14 (by omega)]; omega) fun h16 d16 => ?_)⟩⟩
    have e14 := fill 14 (by omega) _ (getR_get bs (i := 11) (by omega) (by omega))
    have r16 : rd h16 b = ints (getR bs) := by
      rw [d16.rd, r14]
      have : ints ((getR bs).take 15 ++ (List.replicate 0 0 ++ [])) = ints (getR bs) := by rw [List.take_of_length_le (by omega)]; simp
      rw [← this]; exact e14
    have f16 := f14.did d16 fun hlt => by omega
    have z17 : ∀ {hq : Heap}, Fr No h2 hq → Own hq h1.size ∧ (rd hq h1.size).length = 15 := fun fq => ⟨fq.own n2.own.lt (fun x => x) n2.own, by rw [fq.rd n2.own.lt (fun x => x), n2.rd]; rfl⟩
    refine os ⟨ints (getR bs), by rw [ints_length, gl], cellsAll r16, rEncode_spec gl (fun hm h17 f17 => ?_) fun hm a17 c17 h17 f17 s17 => ?_⟩
    · have F17 := f16.no f17
      refine ⟨_, _, _, _, rfl, cn (fun _ => ?_) fun h => absurd h (by decide)⟩
      refine z15_row (h3 := h1) (n2.fr.no F17) (Nat.le_refl _) (z17 F17).1 (z17 F17).2 fun h' f' => ?_
      have := hK h' f'
      rw [decA, if_neg (by omega), show decOk bs = false by rw [decOk, hm, Bool.and_false]] at this
      exact this
    · have F17 := f16.no f17
      refine ⟨_, _, _, _, rfl, cn (fun h => absurd rfl h) fun _ => ⟨_, s17.str, _, StrAt.fr F17 B fun _ _ x => x, ?_⟩⟩
      rw [str_eq]
      refine cnot (cd (fun he => ?_) fun he => ?_)
      · have hcl := (enc_getR hb64).mp he
        have r17 : rd h17 b = ints (getR bs) := (f17.rd d16.own.lt fun x => x).trans r16
        refine os ?_
        refine R_row (h3 := h1) gl (n2.fr.no F17) (Nat.le_refl _) (z17 F17).1 (z17 F17).2 r17 fun h' f' => ?_
        have := hK h' f'
        rw [decA, if_neg (by omega), show decOk bs = true by rw [decOk, hm, hcl]; rfl] at this
        exact this
      · have hcl : clean bs = false := by
          cases e : clean bs with
          | false => rfl
          | true => exact absurd ((enc_getR hb64).mpr e) he
        refine z15_row (h3 := h1) (n2.fr.no F17) (Nat.le_refl _) (z17 F17).1 (z17 F17).2 fun h' f' => ?_
        have := hK h' f'
        rw [decA, if_neg (by omega), show decOk bs = false by rw [decOk, hcl, Bool.false_and]] at this
        exact this
theorem rDecode_spec {a : Option Addr} {l c : Nat} {bs : List UInt8} {h : Heap} {K : Value → Heap → Prop} (B : StrAt h a l bs) (hlc : l ≤ c) (hK : ∀ h', Fr No h h' → K (.tuple #[.agg ⟨ints (decA bs).1⟩, .int .i64 (decA bs).2]) h') : C.boleref11_Decode a l c h K := by
  have hb := B.1
  refine boleref11_Decode.ok (New.intro fun h2 n2 => cn (fun hl => ?_) fun hl => ?_)
  · have e : decA bs = (z15, 32) := by rw [decA, if_pos (by omega)]
    rw [e] at hK
    exact z15_row (h3 := h) n2.fr (Nat.le_refl _) n2.own (by rw [n2.rd]; rfl) hK
  have hl : l = 64 := by omega
  subst hl
  have gl := getR_length bs
  have B2 := StrAt.fr n2.fr B fun _ _ x => x
  have e3 : ([.int .i64 (getAt bs 0 (1 - 0) : Nat), .int .i64 (getAt bs 2 (4 - 2) : Nat), .int .i64 (getAt bs 4 (8 - 4) : Nat), .int .i64 0, .int .i64 0, .int .i64 0, .int .i64 0, .int .i64 0, .int .i64 0, .int .i64 0, .int .i64 0, .int .i64 0, .int .i64 0, .int .i64 0, .int .i64 0] : List Value)
      = ints ((getR bs).take 3 ++ (List.replicate 12 0 ++ [])) := rfl
  have gg : ∀ {hq : Heap} {K : Value → Heap → Prop} (i j : Nat), Fr No h2 hq → i ≤ j → j ≤ 64 → j - i ≤ 7 → K (.int .i64 (getAt bs i (j - i) : Nat)) hq → C.boleref11_number (if c = i then a else Option.map (Addr.add · i) a) (j - i) (c - i) hq K := fun i j fq h1 h2 h4 hk =>
    part_spec (StrAt.fr fq B2 fun _ _ x => x) hlc h1 h2 h4 hk
  -- a block of one's own, made beforehand, takes the row
  have put15 : ∀ {hq hr : Heap} {cs : List Value} {k : Heap → Prop}, Newly hq hr (ints z15) → cs = ints ((getR bs).take 3 ++ (List.replicate 12 0 ++ [])) → Fr No h2 hq → (∀ h', Fr No h2 h' → Own h' hq.size → rd h' hq.size = ints ((getR bs).take 3 ++ (List.replicate 12 0 ++ [])) → k h') → PutRow ⟨hq.size, 0, none⟩ cs 15 hr k := by
    intro hq hr cs k nq ec fq hk
    subst ec
    have sq := fq.size
    refine PutRow.intro nq.own (by rw [ints_length, List.length_append, List.length_take, gl]; rfl) (ints_one _) (by rw [nq.rd]; exact Nat.le_refl _) fun h' d' => hk h' ((fq.new nq).did d' fun hlt => by omega) d'.own ?_
    rw [d'.rd, nq.rd]; exact put_all _ _ (by rw [ints_length, List.length_append, List.length_take, gl]; rfl)
  refine ⟨⟨by omega, by omega, by omega⟩, ⟨by omega, by omega, by omega⟩, ⟨by omega, by omega, by omega⟩, ?_⟩
  refine ⟨gg 0 1 (Fr.refl _ _) (by decide) (by decide) (by decide) ⟨_, rfl, ⟨gg 2 4 (Fr.refl _ _) (by decide) (by decide) (by decide) ⟨_, rfl, ⟨gg 4 8 (Fr.refl _ _) (by decide) (by decide) (by decide) ⟨_, rfl, ?_⟩, ?_⟩⟩, ?_⟩⟩, ?_⟩
  · rw [e3]
    exact NewRow.intro (by rw [ints_length, List.length_append, List.length_take, gl]; rfl) (ints_one _) rfl fun h8 n8 => rDecode_k1 n2 B2 hlc n8.fr (Nat.le_refl _) n8.own n8.rd hK
  · exact New.intro fun h21 n21 => gg 4 8 n21.fr (by decide) (by decide) (by decide) ⟨_, rfl, put15 n21 e3 (Fr.refl _ _) fun h23 f23 w23 r23 => rDecode_k1 n2 B2 hlc f23 (Nat.le_refl _) w23 r23 hK⟩
  · exact New.intro fun h21 n21 => gg 2 4 n21.fr (by decide) (by decide) (by decide) ⟨_, rfl, gg 4 8 n21.fr (by decide) (by decide) (by decide) ⟨_, rfl, put15 n21 e3 (Fr.refl _ _) fun h23 f23 w23 r23 => rDecode_k1 n2 B2 hlc f23 (Nat.le_refl _) w23 r23 hK⟩⟩
  · exact New.intro fun h21 n21 => gg 0 1 n21.fr (by decide) (by decide) (by decide) ⟨_, rfl, gg 2 4 n21.fr (by decide) (by decide) (by decide) ⟨_, rfl, gg 4 8 n21.fr (by decide) (by decide) (by decide) ⟨_, rfl, put15 n21 e3 (Fr.refl _ _) fun h23 f23 w23 r23 => rDecode_k1 n2 B2 hlc f23 (Nat.le_refl _) w23 r23 hK⟩⟩⟩
end Go.Proofs.YtcdpakjhjmchhaaDoor.In
