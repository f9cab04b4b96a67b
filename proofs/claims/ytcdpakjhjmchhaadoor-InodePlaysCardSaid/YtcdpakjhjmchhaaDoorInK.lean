/-
  THE LAWS' OWN HELPERS (mod, brought, fixed); what is encoded is decoded; where the document lets the regions lie.
-/
import Derived.Test.YtcdpakjhjmchhaaDoorInT
namespace Go.Proofs.YtcdpakjhjmchhaaDoor.In
open Go Go.Proofs Go.Proofs.YtcdpakjhjmchhaaDoor.Wx Go.Proofs.YtcdpakjhjmchhaaDoor.Hp Go.Proofs.YtcdpakjhjmchhaaDoor.W Go.Proofs.YtcdpakjhjmchhaaDoor.Re Go.Proofs.YtcdpakjhjmchhaaDoor.Hd

theorem mod_spec {v n : Int} {h : Heap} {K : Value → Heap → Prop} (h0 : 0 < n) (h1 : n ≤ 4294967296) (hK : K (.int .i64 (v % n)) h) : C.bolelaw11_mod v n h K := by
  refine bolelaw11_mod.ok ?_
  unfold bolelaw11_mod
  rw [if_neg (by omega)]
  have e := Int.tmod_eq_emod (a := v) (b := n)
  have p0 := Int.emod_nonneg v (show n ≠ 0 by omega)
  have p1 := Int.emod_lt_of_pos v h0
  refine cd (fun x => ?_) fun x => ?_
  · have : v.tmod n + n = v % n := by
      rw [e] at x ⊢
      split at x
      · omega
      · rename_i c; rw [if_neg c]; omega
    rw [this, wrap_i64 (by omega) (by omega)]; exact hK
  · have : v.tmod n = v % n := by
      rw [e] at x ⊢
      split at x
      · rename_i c; rw [if_pos c]; omega
      · rename_i c; omega
    rw [this]; exact hK
theorem cell15' {h : Heap} {b : Nat} {R : List Int} (r : rd h b = ints R) {i : Nat} (hi : 3 + i < R.length) : cellOf h (Addr.add (Addr.add ⟨b, 0, none⟩ 3) i) = some (.int .i64 (R.getD (3 + i) 0)) := by
  rw [add_mk]
  refine rda r ?_
  rw [Nat.zero_add, ints, List.getElem?_map, List.getD_eq_getElem?_getD, List.getElem?_eq_getElem hi]; rfl
/-- a record brought into its bounds -/
def brX (k l s : Int) (R : List Int) : List Int := [k, l, s] ++ (R.drop 3).map (· % 4294967296)
theorem brX_length {k l s : Int} {R : List Int} (hR : R.length = 15) : (brX k l s R).length = 15 := by rw [brX, List.length_append, List.length_map, List.length_drop, hR]; rfl
theorem brX_get {k l s : Int} {R : List Int} (hR : R.length = 15) {j : Nat} (hj : j < 12) (h : 3 + j < (brX k l s R).length) : (brX k l s R)[3 + j] = R.getD (3 + j) 0 % 4294967296 := by
  have hj' : 3 + j < R.length := by omega
  simp only [brX]
  rw [List.getElem_append_right (by show 3 ≤ 3 + j; omega)]
  simp only [List.length_cons, List.length_nil, Nat.reduceAdd, Nat.add_sub_cancel_left, List.getElem_map, List.getElem_drop]
  rw [List.getD_eq_getElem?_getD, List.getElem?_eq_getElem hj']; rfl
theorem brX_may {k l s : Int} {R : List Int} (hR : R.length = 15) (hk : ∀ X, kindOk k l s X = true) : mayR (brX k l s R) = true := by
  have : (brX k l s R).drop 3 = (R.drop 3).map (· % 4294967296) := rfl
  rw [mayR, Bool.and_eq_true]
  refine ⟨?_, hk _⟩
  rw [this]
  refine List.all_eq_true.mpr fun x hx => ?_
  obtain ⟨y, _, rfl⟩ := List.mem_map.mp hx
  have h0 := Int.emod_nonneg y (show (4294967296 : Int) ≠ 0 by decide)
  have h1 := Int.emod_lt_of_pos y (show (0 : Int) < 4294967296 by decide)
  rw [wordOk, decide_eq_true h0, decide_eq_true (by omega)]; rfl
/-- what follows when kind, links and size are told -/
def brTail (b1 b2 b4 : Nat) (h10 : Heap) (K : Value → Heap → Prop) : Prop :=
  ∃ (I1 : Int → Heap → Prop) (M1 : Int → Heap → Nat), I1 0 h10 ∧
  ∀ (i1 : Int), ∀ h11 : Heap, I1 i1 h11 →
  bif (decide (i1 < 10)) then (
  (0 ≤ i1 ∧ i1 < (10 : Int)) ∧
  ∃ (n8 : Int), cellOf h11 (Addr.add (Addr.add ⟨b1, 0, none⟩ 3) (Int.toNat i1)) = some (.int .i64 n8) ∧
  C.bolelaw11_mod n8 4294967296 h11 fun r4 h12 =>
  ∃ (n9 : Int), r4 = .int .i64 n9 ∧
  (0 ≤ i1 ∧ i1 < (10 : Int)) ∧
  Put (Addr.add (Addr.add ⟨b4, 0, none⟩ 3) (Int.toNat i1)) (.int .i64 n9) h12 fun h13 =>
  I1 (IntKind.wrap .i64 (i1 + 1)) h13 ∧ M1 (IntKind.wrap .i64 (i1 + 1)) h13 < M1 i1 h11) else (
  ∃ (n10 : Int), cellOf h11 (Addr.add ⟨b1, 0, none⟩ 13) = some (.int .i64 n10) ∧
  C.bolelaw11_mod n10 4294967296 h11 fun r5 h14 =>
  ∃ (n11 : Int), r5 = .int .i64 n11 ∧
  Put (Addr.add ⟨b4, 0, none⟩ 13) (.int .i64 n11) h14 fun h15 =>
  ∃ (n12 : Int), cellOf h15 (Addr.add ⟨b1, 0, none⟩ 14) = some (.int .i64 n12) ∧
  C.bolelaw11_mod n12 4294967296 h15 fun r6 h16 =>
  ∃ (n13 : Int), r6 = .int .i64 n13 ∧
  Put (Addr.add ⟨b4, 0, none⟩ 14) (.int .i64 n13) h16 fun h17 =>
  ∃ cs1 : List Value, List.length cs1 = 15 ∧ Cells h17 ⟨b4, 0, none⟩ cs1 ∧
  PutRow ⟨b2, 0, none⟩ cs1 15 h17 fun h18 =>
  ∃ res1 : List Value, List.length res1 = 15 ∧ Cells h18 ⟨b2, 0, none⟩ res1 ∧
  K (.agg ⟨res1⟩) h18)
theorem brTail_spec {b1 b2 b4 : Nat} {k l s : Int} {R : List Int} {h h10 : Heap} {K : Value → Heap → Prop} (hR : R.length = 15) (f : Fr No h h10) (h2 : h.size ≤ b2) (h4 : h.size ≤ b4) (hne : b1 ≠ b4) (hne2 : b2 ≠ b4) (r1 : rd h10 b1 = ints R) (l1 : b1 < h10.size)
    (w2 : Own h10 b2) (l2 : (rd h10 b2).length = 15) (w4 : Own h10 b4) (r4 : rd h10 b4 = ints ((brX k l s R).take 3 ++ (List.replicate 12 0 ++ []))) (hK : ∀ h', Fr No h h' → K (.agg ⟨ints (brX k l s R)⟩) h') : brTail b1 b2 b4 h10 K := by
  have gl := brX_length (k := k) (l := l) (s := s) hR
  have ll : ∀ k', k' ≤ 15 → (ints ((brX k l s R).take k' ++ (List.replicate (15 - k') 0 ++ []))).length = 15 := fun k' hk => by
    rw [ints_length, List.length_append, List.length_append, List.length_take, List.length_replicate, gl, List.length_nil]; omega
  have fill : ∀ (k' : Nat) (hk : k' < 15) (v : Int), (brX k l s R)[k']'(by omega) = v → (ints ((brX k l s R).take k' ++ (List.replicate (15 - k') 0 ++ []))).set k' (.int .i64 v) = ints ((brX k l s R).take (k' + 1) ++ (List.replicate (15 - (k' + 1)) 0 ++ [])) := fun k' hk v e => by
    have := set_fill (brX k l s R) 0 [] k' (15 - k') (by omega) (by omega)
    rw [e] at this
    rw [show 15 - (k' + 1) = 15 - k' - 1 by omega, ← this, ints, ints, List.map_set]
  refine ⟨fun i hh => 0 ≤ i ∧ i ≤ 10 ∧ Fr (fun b => b = b4) h10 hh ∧ Own hh b4 ∧ rd hh b4 = ints ((brX k l s R).take (3 + i.toNat) ++ (List.replicate (12 - i.toNat) 0 ++ [])), fun i _ => ((10 : Nat) - i).toNat, ⟨by omega, by omega, Fr.refl _ _, w4, r4⟩, ?_⟩
  rintro i h11 ⟨i0, i1, f11, w11, r11⟩
  have l11 : (rd h11 b4).length = 15 := by
    have := ll (3 + i.toNat) (by omega)
    rw [r11, show 12 - i.toNat = 15 - (3 + i.toNat) by omega]; exact this
  have rx : rd h11 b1 = ints R := (f11.rd l1 hne).trans r1
  refine cd (fun hi => ?_) fun hi => ?_
  · have hi : i < 10 := hi
    refine ⟨⟨i0, hi⟩, _, cell15' rx (by omega), mod_spec (by decide) (by decide) ⟨_, rfl, ⟨i0, hi⟩, ?_⟩⟩
    rw [add_mk, wrap_i64 (by omega) (by omega)]
    refine Put.add w11 (by omega) fun h13 d13 => ⟨⟨by omega, by omega, f11.did d13 fun _ => rfl, d13.own, ?_⟩, falls (m := 10) hi⟩
    have e := fill (3 + i.toNat) (by omega) _ (brX_get hR (j := i.toNat) (by omega) (by omega))
    rw [d13.rd, r11, show 0 + 3 + i.toNat = 3 + i.toNat by omega, show 12 - i.toNat = 15 - (3 + i.toNat) by omega, show 3 + (i + 1).toNat = 3 + i.toNat + 1 by omega, show 12 - (i + 1).toNat = 15 - (3 + i.toNat + 1) by omega, ← e]
  · have hi : ¬ i < 10 := hi
    have ei : i.toNat = 10 := by omega
    rw [ei] at r11
    refine ⟨_, cell15 rx (by omega), mod_spec (by decide) (by decide) ⟨_, rfl, Put.add w11 (by omega) fun h15 d15 => ?_⟩⟩
    have e13 := fill 13 (by omega) _ (brX_get hR (j := 10) (by omega) (by omega))
    have r15 : rd h15 b4 = ints ((brX k l s R).take 14 ++ (List.replicate 1 0 ++ [])) := by rw [d15.rd, r11]; exact e13
    have f15 := f11.did d15 fun _ => rfl
    refine ⟨_, cell15 ((f15.rd l1 hne).trans r1) (by omega), mod_spec (by decide) (by decide) ⟨_, rfl, Put.add d15.own (by rw [r15, ll 14 (by omega)]; omega) fun h17 d17 => ?_⟩⟩
    have e14 := fill 14 (by omega) _ (brX_get hR (j := 11) (by omega) (by omega))
    have r17 : rd h17 b4 = ints (brX k l s R) := by
      rw [d17.rd, r15]
      have : ints ((brX k l s R).take 15 ++ (List.replicate 0 0 ++ [])) = ints (brX k l s R) := by rw [List.take_of_length_le (by omega)]; simp
      rw [← this]; exact e14
    have f17 := f15.did d17 fun _ => rfl
    have li : (ints (brX k l s R)).length = 15 := by rw [ints_length, gl]
    have e2 : rd h17 b2 = rd h10 b2 := f17.rd w2.lt hne2
    refine ⟨_, li, cellsAll r17, PutRow.intro (f17.own w2.lt hne2 w2) li (ints_one _) (by rw [e2]; omega) fun h18 d18 => ⟨_, li, cellsAll ?_, hK h18 ?_⟩⟩
    · rw [d18.rd, e2]; exact put_all _ _ (by rw [li, l2])
    · exact (f.trans f17 fun b hb e => by omega).did d18 fun hl => by omega
theorem brought_spec {R : List Int} {h : Heap} {K : Value → Heap → Prop} (hR : R.length = 15) (hK : ∀ P h', P.length = 15 → mayR P = true → P.getD 0 0 ≠ 0 → Fr No h h' → K (.agg ⟨ints P⟩) h') : C.bolelaw11_brought (ints R) h K := by
  refine bolelaw11_brought.ok (New.intro fun h2 n2 => New.intro fun h3 n3 => ⟨_, cell15 ((n3.at_ n2.own.lt).trans n2.rd) (by omega), mod_spec (by decide) (by decide) ⟨_, rfl, ?_⟩⟩)
  have m0 := Int.emod_nonneg (R.getD 0 0) (show (3 : Int) ≠ 0 by decide)
  have m1 := Int.emod_lt_of_pos (R.getD 0 0) (show (0 : Int) < 3 by decide)
  generalize R.getD 0 0 % 3 = q at m0 m1
  rw [wrap_i64 (by omega) (by omega)]
  have s2 := n2.size
  have s3 := n3.size
  have F3 := n2.fr.new n3
  refine NewRow.intro (cs := ints [1 + q, 0, 0, 0, 0, 0, 0, 0, 0, 0, 0, 0, 0, 0, 0]) rfl (ints_one _) rfl fun h6 n6 => ?_
  have s6 := n6.size
  have F6 := F3.new n6
  have rx : rd h6 h.size = ints R := (n6.at_ (by omega)).trans ((n3.at_ n2.own.lt).trans n2.rd)
  have w2 : Own h6 h2.size := n6.ow n3.own
  have l2 : (rd h6 h2.size).length = 15 := by rw [n6.at_ (by omega), n3.rd]; rfl
  -- links and size are written, then the words
  have fin : ∀ {k l s : Int} {h8 h10 : Heap} {K' : Value → Heap → Prop}, k = 1 + q → (∀ X, kindOk k l s X = true) → Did h3.size h6 h8 ((rd h6 h3.size).set (0 + 1) (.int .i64 l)) → Did h3.size h8 h10 ((rd h8 h3.size).set (0 + 2) (.int .i64 s)) → brTail h.size h2.size h3.size h10 K := by
    intro k l s h8 h10 _ ek hk d8 d10
    subst ek
    refine brTail_spec (h := h) (k := 1 + q) (l := l) (s := s) hR ((F6.did d8 fun hl => by omega).did d10 fun hl => by omega) (by omega) (by omega) (by omega) (by omega) ?_ (by have := d8.size; have := d10.size; omega) (d10.ow (d8.ow w2)) ?_ d10.own ?_ fun h' f' => hK _ h' (brX_length hR) (brX_may hR hk) (by show (1 + q) ≠ 0; omega) f'
    · rw [d10.at_ (by have := d8.size; omega) (by omega), d8.at_ (by omega) (by omega)]; exact rx
    · rw [d10.at_ (by have := d8.size; omega) (by omega), d8.at_ (by omega) (by omega)]; exact l2
    · rw [d10.rd, d8.rd, n6.rd]; rfl
  have lh : ∀ {h8 : Heap} {v : Value}, Did h3.size h6 h8 ((rd h6 h3.size).set (0 + 1) v) → 0 + 2 < (rd h8 h3.size).length ∧ rd h8 h.size = ints R := fun d8 => ⟨by rw [d8.rd, n6.rd, List.length_set]; show 0 + 2 < 15; omega, (d8.at_ (by omega) (by omega)).trans rx⟩
  refine ⟨_, rda n6.rd rfl, ce (fun e1 => ?_) fun e1 => ?_⟩
  · have b0 := Int.emod_nonneg (R.getD 1 0) (show (1001 : Int) ≠ 0 by decide)
    have b1 := Int.emod_lt_of_pos (R.getD 1 0) (show (0 : Int) < 1001 by decide)
    have c0 := Int.emod_nonneg (R.getD 2 0) (show (8459265 : Int) ≠ 0 by decide)
    have c1 := Int.emod_lt_of_pos (R.getD 2 0) (show (0 : Int) < 8459265 by decide)
    refine ⟨_, cell15 rx (by omega), mod_spec (by decide) (by decide) ⟨_, rfl, Put.add n6.own (by rw [n6.rd]; show 0 + 1 < 15; omega) fun h8 d8 => ⟨_, cell15 (lh d8).2 (by omega), mod_spec (by decide) (by decide) ⟨_, rfl, Put.add d8.own (lh d8).1 fun h10 d10 => ?_⟩⟩⟩⟩
    refine fin (K' := K) rfl (fun X => ?_) d8 d10
    rw [kindOk, if_neg (by omega), if_pos e1, decide_eq_true b0, decide_eq_true (show R.getD 1 0 % 1001 ≤ 1000 by omega), decide_eq_true c0, decide_eq_true (show R.getD 2 0 % 8459265 ≤ 8459264 by omega)]; rfl
  · refine ce (fun e2 => ?_) fun e2 => ?_
    · have b0 := Int.emod_nonneg (R.getD 1 0) (show (65534 : Int) ≠ 0 by decide)
      have b1 := Int.emod_lt_of_pos (R.getD 1 0) (show (0 : Int) < 65534 by decide)
      have c0 := Int.emod_nonneg (R.getD 2 0) (show (16523 : Int) ≠ 0 by decide)
      have c1 := Int.emod_lt_of_pos (R.getD 2 0) (show (0 : Int) < 16523 by decide)
      refine ⟨_, cell15 rx (by omega), mod_spec (by decide) (by decide) ⟨_, rfl, ?_⟩⟩
      rw [wrap_i64 (n := 2 + _) (by omega) (by omega)]
      refine Put.add n6.own (by rw [n6.rd]; show 0 + 1 < 15; omega) fun h8 d8 => ⟨_, cell15 (lh d8).2 (by omega), mod_spec (by decide) (by decide) ⟨_, rfl, ?_⟩⟩
      rw [wrap_i64 (n := 512 * _) (by omega) (by omega)]
      refine Put.add d8.own (lh d8).1 fun h10 d10 => fin (K' := K) rfl (fun X => ?_) d8 d10
      rw [kindOk, if_neg (by omega), if_neg (by omega), if_pos e2, decide_eq_true (show 2 ≤ 2 + R.getD 1 0 % 65534 by omega), decide_eq_true (show 2 + R.getD 1 0 % 65534 ≤ 65535 by omega), decide_eq_true (show 0 ≤ 512 * (R.getD 2 0 % 16523) by omega), decide_eq_true (show 512 * (R.getD 2 0 % 16523) ≤ 8459264 by omega), decide_eq_true (show 512 * (R.getD 2 0 % 16523) % 512 = 0 by omega)]; rfl
    · have b0 := Int.emod_nonneg (R.getD 1 0) (show (1000 : Int) ≠ 0 by decide)
      have b1 := Int.emod_lt_of_pos (R.getD 1 0) (show (0 : Int) < 1000 by decide)
      have c0 := Int.emod_nonneg (R.getD 2 0) (show (1024 : Int) ≠ 0 by decide)
      have c1 := Int.emod_lt_of_pos (R.getD 2 0) (show (0 : Int) < 1024 by decide)
      refine ⟨_, cell15 rx (by omega), mod_spec (by decide) (by decide) ⟨_, rfl, ?_⟩⟩
      rw [wrap_i64 (n := 1 + _) (by omega) (by omega)]
      refine Put.add n6.own (by rw [n6.rd]; show 0 + 1 < 15; omega) fun h8 d8 => ⟨_, cell15 (lh d8).2 (by omega), mod_spec (by decide) (by decide) ⟨_, rfl, ?_⟩⟩
      rw [wrap_i64 (n := 1 + _) (by omega) (by omega)]
      refine Put.add d8.own (lh d8).1 fun h10 d10 => fin (K' := K) rfl (fun X => ?_) d8 d10
      rw [kindOk, if_neg (by omega), if_neg (by omega), if_neg (by omega), if_pos (by omega), decide_eq_true (show 1 ≤ 1 + R.getD 1 0 % 1000 by omega), decide_eq_true (show 1 + R.getD 1 0 % 1000 ≤ 1000 by omega), decide_eq_true (show 1 ≤ 1 + R.getD 2 0 % 1024 by omega), decide_eq_true (show 1 + R.getD 2 0 % 1024 ≤ 1024 by omega)]; rfl
theorem decA_enc {P : List Int} (hP : P.length = 15) (hm : mayR P = true) : decA (encR P) = (P, 0) := by
  obtain ⟨e1, e2⟩ := getR_enc hP hm
  have : decOk (encR P) = true := by rw [decOk, e1, e2, hm]; rfl
  rw [decA, if_neg (by rw [encR_length hP]; decide), if_pos this, e1]
theorem append_grow {elem : TI} {e : Nat} {a : Option Addr} {l c n : Nat} {old new : List Value} {h : Heap} {k : Option Addr → Nat → Nat → Heap → Prop}
    (ho : old.length = l * elem.cells) (S : SlCells h a old) (hn : new.length = n * elem.cells) (hz : elem.zero.length = elem.cells) (hb : (l + n) * elem.bytes ≤ 140737488355328) (hb' : l + n ≤ 140737488355328) (hc : c < l + n)
    (hk : ∀ c' h', Fr No h h' → Sl h' elem.cells (some ⟨h.size, 0, none⟩) (l + n) c' (old ++ new) (fun b => b = h.size) → k (some ⟨h.size, 0, none⟩) (l + n) c' h') :
    AppendP elem e a l c n new h k := by
  refine ⟨old, ho, S, hb, hb', fun x => absurd x (by omega), fun _ cap hcap => ?_⟩
  refine hk cap _ (fr_newO _ _) (Sl.new h elem.cells e (l + n) cap (old ++ new) _ _ rfl (by rw [List.length_append, ho, hn, Nat.add_mul]) hcap ?_)
  rw [length_repCells, hz]
def plainL : List Int := [1, 1, 5, 101, 0, 0, 0, 0, 0, 0, 0, 0, 0, 0, 0]
theorem plain_spec {h : Heap} {K : Value → Heap → Prop} (hK : ∀ h', Fr No h h' → K (.agg ⟨ints plainL⟩) h') : C.bolelaw11_plain h K := by
  refine bolelaw11_plain.ok (New.intro fun h2 n2 => NewRow.intro rfl (ints_one [1, 1, 5, 0, 0, 0, 0, 0, 0, 0, 0, 0, 0, 0, 0]) rfl fun h4 n4 => ⟨by decide, ?_⟩)
  have s2 := n2.size
  have s4 := n4.size
  rw [add_mk]
  refine Put.add n4.own (by rw [n4.rd]; show 0 + 3 + 0 < 15; omega) fun h5 d5 => ?_
  have r5 : rd h5 h2.size = ints plainL := by rw [d5.rd, n4.rd]; rfl
  refine ⟨ints plainL, rfl, cellsAll r5, PutRow.intro (d5.ow (n4.ow n2.own)) rfl (ints_one plainL) ?_ fun h6 d6 => ⟨ints plainL, rfl, cellsAll ?_, hK h6 (((n2.fr.new n4).did d5 fun hl => by omega).did d6 fun hl => by omega)⟩⟩
  · rw [d5.at_ (by omega) (by omega), n4.at_ (by omega), n2.rd]; exact Nat.le_refl _
  · rw [d6.rd, d5.at_ (by omega) (by omega), n4.at_ (by omega), n2.rd]; rfl
end Go.Proofs.YtcdpakjhjmchhaaDoor.In
namespace Go.Proofs.YtcdpakjhjmchhaaDoor.Ino
open Go Go.Proofs Go.Proofs.YtcdpakjhjmchhaaDoor.Wx Go.Proofs.YtcdpakjhjmchhaaDoor.Hp Go.Proofs.YtcdpakjhjmchhaaDoor.W Go.Proofs.YtcdpakjhjmchhaaDoor.Ad Go.Proofs.YtcdpakjhjmchhaaDoor.Tm Go.Proofs.YtcdpakjhjmchhaaDoor.Bt Go.Proofs.YtcdpakjhjmchhaaDoor.Spc Go.Proofs.YtcdpakjhjmchhaaDoor.Re Go.Proofs.YtcdpakjhjmchhaaDoor.Av
open Go.Proofs.YtcdpakjhjmchhaaDoor.Hd (ints)
open Go.Proofs.YtcdpakjhjmchhaaDoor.In (z15 mayR encR decA ints_one ints_length ints_eq pairs15 cell15 Glo getR_length encR_length z15_row plainL)

theorem newF_spec {n : Int} {h : Heap} {K : Value → Heap → Prop} (h1 : 1 ≤ n) (h2 : n ≤ 16384)
    (hK : ∀ q h' D, Fr No h h' → (∀ b, D b → h.size ≤ b) → DiskF h' D (some q) (fresh (List.replicate n.toNat zeroBlk)) → K (.tuple #[.pointer (some q), .int .i64 0]) h') : C.adisk_New n h K := by
  refine New_spec (fun _ => 0) 1 (fun y => by omega) fun _ _ q h' col' f g a => ?_
  refine hK q h' _ f (fun b hb => ?_) (DiskF.mk a)
  rcases Nat.lt_or_ge b h.size with h1 | h1
  · have e : col' b = 0 := g b h1
    omega
  · exact h1
theorem geo_one (n : Nat) : ∀ v ∈ (geoN n).v, v.oneCell' = true := G.one _
theorem Of7_any {n : Nat} {m : Int} {h : Heap} {K : Value → Heap → Prop} (d : Dim n) (hm : m = n) (hK : ∀ h', Fr No h h' → K (.tuple #[.agg ⟨(geoN n).v⟩, .int .i64 0]) h') : C.boleref07_Of m h K := by
  have hlo := d.lo
  have hhi := d.hi
  refine boleref07_Of.ok (New.intro fun h2 n2 => cd (fun y => by exfalso; omega) fun _ => cd (fun y => by exfalso; omega) fun _ => ?_)
  unfold boleref07_Of.k1
  refine NewRow.intro (cs := ints [m, 98, 98, 0, 0]) rfl (ints_one [m, 98, 98, 0, 0]) rfl fun h7 n7 => ?_
  have s2 := n2.size
  have s7 := n7.size
  refine ⟨fun told hh => ∃ j : Nat, told = ((4096 * j : Nat) : Int) ∧ (j = 0 ∨ 4096 * (j - 1) < n) ∧ Fr No h2 hh ∧ Own hh h2.size ∧ rd hh h2.size = ints [m, 98, ((98 + j : Nat) : Int), 0, 0], fun told _ => (m - told).toNat, ⟨0, rfl, .inl rfl, n7.fr, n7.own, n7.rd⟩, ?_⟩
  rintro told h8 ⟨j, rfl, hj, f8, w8, e8⟩
  refine cd (fun hlt => ?_) fun hlt => ?_
  · refine ⟨_, rda e8 rfl, Put.add w8 (by rw [e8]; show 0 + 2 < 5; omega) fun h9 d9 => ⟨⟨j + 1, ?_, .inr (by rw [Nat.add_sub_cancel]; omega), f8.did d9 fun hl => by omega, d9.own, ?_⟩, ?_⟩⟩
    · rw [wrap_i64 (by omega) (by omega)]; omega
    · rw [d9.rd, e8, wrap_i64 (n := ((98 + j : Nat) : Int) + 1) (by omega) (by omega), show ((98 + j : Nat) : Int) + 1 = ((98 + (j + 1) : Nat) : Int) by omega]; rfl
    · show (m - IntKind.wrap .i64 (((4096 * j : Nat) : Int) + 4096)).toNat < (m - ((4096 * j : Nat) : Int)).toNat
      rw [wrap_i64 (by omega) (by omega)]; omega
  · have ej : j = (n + 4095) / 4096 := by omega
    refine ⟨_, rda e8 rfl, Put.add w8 (by rw [e8]; show 0 + 3 < 5; omega) fun h10 d10 => ?_⟩
    have e10 : rd h10 h2.size = ints [m, 98, ((98 + j : Nat) : Int), ((98 + j : Nat) : Int), 0] := by rw [d10.rd, e8]; rfl
    refine ⟨fun row hh => ∃ i : Nat, row = ((64 * i + 64 : Nat) : Int) ∧ 64 * i ≤ n ∧ Fr No h2 hh ∧ Own hh h2.size ∧ rd hh h2.size = ints [m, 98, ((98 + j : Nat) : Int), ((98 + j + i : Nat) : Int), ((8 * i : Nat) : Int)], fun row _ => (m + 64 - row).toNat, ⟨0, rfl, by omega, f8.did d10 fun hl => by omega, d10.own, e10⟩, ?_⟩
    rintro row h11 ⟨i, rfl, hi, f11, w11, e11⟩
    refine cd (fun hle => ?_) fun hle => ?_
    · refine ⟨_, rda e11 rfl, Put.add w11 (by rw [e11]; show 0 + 3 < 5; omega) fun h12 d12 => ?_⟩
      have e12 : rd h12 h2.size = ints [m, 98, ((98 + j : Nat) : Int), ((98 + j + (i + 1) : Nat) : Int), ((8 * i : Nat) : Int)] := by
        rw [d12.rd, e11, wrap_i64 (n := ((98 + j + i : Nat) : Int) + 1) (by omega) (by omega), show ((98 + j + i : Nat) : Int) + 1 = ((98 + j + (i + 1) : Nat) : Int) by omega]; rfl
      refine ⟨_, rda e12 rfl, Put.add d12.own (by rw [e12]; show 0 + 4 < 5; omega) fun h13 d13 => ⟨⟨i + 1, ?_, by omega, (f11.did d12 fun hl => by omega).did d13 fun hl => by omega, d13.own, ?_⟩, ?_⟩⟩
      · rw [wrap_i64 (by omega) (by omega)]; omega
      · rw [d13.rd, e12, wrap_i64 (n := ((8 * i : Nat) : Int) + 8) (by omega) (by omega), show ((8 * i : Nat) : Int) + 8 = ((8 * (i + 1) : Nat) : Int) by omega]; rfl
      · show (m + 64 - IntKind.wrap .i64 (((64 * i + 64 : Nat) : Int) + 64)).toNat < (m + 64 - ((64 * i + 64 : Nat) : Int)).toNat
        rw [wrap_i64 (by omega) (by omega)]; omega
    · have ei : i = n / 64 := by omega
      have eg : ints [m, 98, ((98 + j : Nat) : Int), ((98 + j + i : Nat) : Int), ((8 * i : Nat) : Int)] = (geoN n).v := by rw [ej, ei, hm]; rfl
      rw [eg] at e11
      refine ⟨_, rfl, cellsAll e11, PutRow.intro (f11.own n2.own.lt (fun y => y) n2.own) rfl (geo_one n) (by rw [f11.rd n2.own.lt fun y => y, n2.rd]; exact Nat.le_refl _) fun h14 d14 => ⟨_, rfl, cellsAll ?_, hK h14 ((n2.fr.no f11).did d14 fun hl => by omega)⟩⟩
      rw [d14.rd, f11.rd n2.own.lt fun y => y, n2.rd]; rfl
theorem Of7_spec {n : Nat} {h : Heap} {K : Value → Heap → Prop} (d : Dim n) (hK : ∀ h', Fr No h h' → K (.tuple #[.agg ⟨(geoN n).v⟩, .int .i64 0]) h') : C.boleref07_Of (n : Int) h K := Of7_any d rfl hK
/-! the document's example -/
def T0 : TM := ⟨fresh (List.replicate 128 zeroBlk), [], [], false⟩
def T1 : TM := (putM T0 (geoN 128) 8 plainL).1
def T2 : TM := (takeI T1 (geoN 128) plainL).1
theorem f1 : mayR plainL = true := by decide +kernel
theorem f2 : (putM T0 (geoN 128) 8 plainL).2 = 0 := by decide +kernel
theorem f3 : (takeI T1 (geoN 128) plainL).2 = (1, 0) := by decide +kernel
theorem f4 : getM T2 (geoN 128) 8 = (plainL, 0) := by decide +kernel
theorem f5 : freeI T2 (geoN 128) ((geoN 128).count - 1) 1 0 = (13, 0) := by decide +kernel
theorem f6 : (encR plainL).getD 8 0 = 101 := by decide +kernel
theorem f7 : decA (encR plainL) = (plainL, 0) := by decide +kernel
theorem f8 : decA (encR plainL ++ [0]) = (z15, 32) := by decide +kernel
theorem cok {n : Nat} (d : Dim n) : Cok (geoN n) := ⟨geoN_ok d.hi, by have := d.hi; show 8 * (n / 64) ≤ _; omega⟩
theorem fixed_spec {h : Heap} {K : Value → Heap → Prop} (g : Glo h) (hK : ∀ h', Fr No h h' → K (.bool true) h') : C.bolelaw11_fixed h K := by
  have lR : plainL.length = 15 := rfl
  have d128 : Dim 128 := ⟨by decide, by decide⟩
  have ok := cok d128
  refine bolelaw11_fixed.ok (newF_spec (n := 128) (by decide) (by decide) fun q h2 D f2 hD A => ⟨_, _, rfl, cn (fun y => absurd rfl y) fun _ => cf rfl ?_⟩)
  unfold bolelaw11_fixed.k1
  refine Of7_spec d128 fun h3 f3 => ⟨_, _, rfl, NewRow.intro rfl (geo_one 128) rfl fun h5 n5 => ?_⟩
  have z2 := f2.size
  have z3 := f3.size
  have z5 := n5.size
  have F5 : Fr No h h5 := (f2.no f3).new n5
  have F25 : Fr No h2 h5 := f3.new n5
  refine Begin_spec (A.no F25) fun tb h6 F f6 g6 x6 => ⟨_, rfl, cn (fun y => absurd rfl y) fun _ => cf rfl ?_⟩
  have x6 : Tx h6 F (some ⟨tb, 0, none⟩) (some q) T0 := x6
  have z6 := f6.size
  have nf : ∀ b, F b → h.size ≤ b ∧ b ≠ h3.size := fun b y => by
    rcases g6.new y with w | w
    · have := hD b w
      have := A.lt w
      omega
    · omega
  unfold bolelaw11_fixed.k2
  have F6 : Fr No h h6 := F5.no f6
  have g6' : rd h6 h3.size = (geoN 128).v := (f6.rd (by omega) fun y => y).trans n5.rd
  refine In.plain_spec fun h7 f7' => ⟨_, rfl, NewRow.intro rfl (ints_one plainL) rfl fun h9 n9 => ?_⟩
  have z7 := f7'.size
  have z9 := n9.size
  have F9 : Fr No h h9 := (F6.no f7').new n9
  have g9 : rd h9 h3.size = (geoN 128).v := (n9.at_ (by omega)).trans ((f7'.rd (by omega) fun y => y).trans g6')
  have x9 := (x6.no f7').no n9.fr
  refine ⟨ints plainL, rfl, cellsAll n9.rd, In.Encode_spec (g.no F9) lR (fun y => by rw [f1] at y; cases y) fun _ eb h10 f10 heb s10 => ⟨_, _, _, _, rfl, ?_⟩⟩
  have z10 := f10.size
  have leb : eb < h10.size := s10.lt
  have F10 : Fr No h h10 := F9.no f10
  have x10 := x9.no f10
  have g10 : rd h10 h3.size = (geoN 128).v := (f10.rd (by omega) fun y => y).trans g9
  have p10 : rd h10 h7.size = ints plainL := (f10.rd (by omega) fun y => y).trans n9.rd
  have B10 := s10.str
  have lt6 : ∀ b, F b → b < h6.size := fun b y => x6.lt y
  have k1 : ¬ F h3.size := fun y => (nf _ y).2 rfl
  have k2 : ¬ F h7.size := fun y => by have := lt6 _ y; omega
  have k3 : ¬ F eb := fun y => by have := lt6 _ y; omega
  have old : ∀ {hh : Heap} {G : Nat → Prop}, Fr No h hh → (∀ b, G b → F b ∨ h10.size ≤ b) → ∀ {h' : Heap}, Fr G hh h' → Fr No h h' := fun f hG _ f' => f.trans f' fun b hb y => by
    rcases hG b y with w | w
    · have := (nf b w).1; omega
    · have := F10.size; omega
  refine ⟨(geoN 128).v, rfl, cellsAll g10, ints plainL, rfl, cellsAll p10, Put_spec (g.no F10) x10 ok lR (by show 0 < 1000000000; omega) fun h11 F11 f11 g11 x11 => ⟨_, rfl, ?_⟩⟩
  have x11 : Tx h11 F11 (some ⟨tb, 0, none⟩) (some q) T1 := x11
  have w11 : ∀ b, F11 b → F b ∨ h10.size ≤ b := fun b y => g11.new y
  have z11 := f11.size
  have F11' : Fr No h h11 := old F10 (fun b y => .inl y) f11
  have g11' : rd h11 h3.size = (geoN 128).v := (f11.rd (by omega) k1).trans g10
  have p11 : rd h11 h7.size = ints plainL := (f11.rd (by omega) k2).trans p10
  have B11 := StrAt.fr f11 B10 fun p e => by cases e; exact k3
  have n11 : ∀ b, b < h10.size → ¬ F b → ¬ F11 b := fun b hb y w => by rcases w11 b w with w | w; exact y w; omega
  refine ⟨(geoN 128).v, rfl, cellsAll g11', ints plainL, rfl, cellsAll p11, Take_spec (g.no F11') x11 ok lR (by show T1.undo.length < 1000000000; decide +kernel) fun h12 F12 f12 g12 x12 => ⟨_, _, rfl, ?_⟩⟩
  have x12 : Tx h12 F12 (some ⟨tb, 0, none⟩) (some q) T2 := x12
  have z12 := f12.size
  have F12' : Fr No h h12 := old F11' w11 f12
  have g12' : rd h12 h3.size = (geoN 128).v := (f12.rd (by omega) (n11 _ (by omega) k1)).trans g11'
  have p12 : rd h12 h7.size = ints plainL := (f12.rd (by omega) (n11 _ (by omega) k2)).trans p11
  have B12 := StrAt.fr f12 B11 fun p e => by cases e; exact n11 _ leb k3
  refine ⟨(geoN 128).v, rfl, cellsAll g12', Get_spec (g.no F12') x12 ok fun h13 f13 => ?_⟩
  rw [f4]
  refine ⟨_, _, rfl, NewRow.intro rfl (ints_one plainL) rfl fun h15 n15 => ?_⟩
  have z13 := f13.size
  have z15' := n15.size
  have F15 : Fr No h12 h15 := f13.new n15
  refine ⟨(geoN 128).v, rfl, cellsAll ((F15.rd (by omega) fun y => y).trans g12'), Free_spec (g.no (F12'.no F15)) (x12.no F15) ok fun h16 f16 => ?_⟩
  rw [f5]
  have z16 := f16.size
  have F16 : Fr No h12 h16 := F15.no f16
  refine ⟨_, _, rfl, New.intro fun h17 n17 => ⟨[bv 0], rfl, cellsAll n17.rd, bv_one [0], ?_⟩⟩
  have z17 := n17.size
  have F17 := F16.new n17
  have B17 := StrAt.fr F17 B12 fun _ _ y => y
  refine In.append_grow (old := (encR plainL).map bv) (by rw [List.length_map, encR_length lR]; rfl) B17.2 rfl rfl (by decide) (by decide) (by decide) fun c18 h18 f18 s18 => ?_
  have z18 := f18.size
  have F18 := F17.no f18
  have s18 : Sl h18 1 (some ⟨h17.size, 0, none⟩) 65 c18 ((encR plainL ++ [0]).map bv) (fun b => b = h17.size) := by rw [List.map_append]; exact s18
  refine In.Decode_spec (g.no (F12'.no F18)) s18.str s18.le fun h19 f19 => ?_
  rw [f8]
  have z19 := f19.size
  refine ⟨_, _, rfl, NewRow.intro rfl (ints_one z15) rfl fun h21 n21 => ?_⟩
  have z21 := n21.size
  have F21 := (F18.no f19).new n21
  refine In.Decode_spec (g.no (F12'.no F21)) (StrAt.fr F21 B12 fun _ _ y => y) (Nat.le_refl _) fun h22 f22 => ?_
  rw [f7]
  have z22 := f22.size
  refine ⟨_, _, rfl, NewRow.intro rfl (ints_one plainL) rfl fun h24 n24 => ?_⟩
  have F24 := (F21.no f22).new n24
  have B24 := StrAt.fr F24 B12 fun _ _ y => y
  have x24 : rd h24 h7.size = ints plainL := (F24.rd (by omega) fun y => y).trans p12
  have y24 : rd h24 h13.size = ints plainL := (n24.at_ (by omega)).trans ((f22.rd (by omega) fun y => y).trans ((n21.at_ (by omega)).trans ((f19.rd (by omega) fun y => y).trans ((f18.rd (by omega) fun y => y).trans ((n17.at_ (by omega)).trans ((f16.rd (by omega) fun y => y).trans n15.rd))))))
  have w24 : rd h24 h22.size = ints plainL := n24.rd
  have c8 : cellOf h24 (Addr.add ⟨eb, 0, none⟩ (Int.toNat 8)) = some (.int .u8 101) := by
    refine Cells.cell B24.2 ?_
    rw [List.getElem?_map]
    have e := Ino.f6
    rw [List.getD_eq_getElem?_getD] at e
    have hl : (8 : Int).toNat < (encR plainL).length := by rw [encR_length lR]; decide
    have e2 : (encR plainL)[(8 : Int).toNat]? = some ((encR plainL)[(8 : Int).toNat]'hl) := List.getElem?_eq_getElem hl
    rw [show (8 : Nat) = (8 : Int).toNat from rfl, e2] at e
    have e : (encR plainL)[(8 : Int).toNat]'hl = 101 := e
    rw [e2, e]; rfl
  have FF : Fr No h h24 := F12'.no F24
  rw [show (putM T0 (geoN 128) 8 plainL).2 = 0 from Ino.f2, show (takeI T1 (geoN 128) plainL).2.1 = 1 from congrArg Prod.fst Ino.f3, show (takeI T1 (geoN 128) plainL).2.2 = 0 from congrArg Prod.snd Ino.f3]
  refine ct rfl (ct rfl ⟨by decide, os ⟨_, c8, ct rfl (ct rfl (ct rfl (ct rfl (ct rfl ⟨ints plainL, rfl, cellsAll y24, ints plainL, rfl, cellsAll x24, rfl, ?_⟩))))⟩⟩)
  refine ct rfl (ct rfl (ct rfl (ct rfl (ct rfl ⟨ints plainL, rfl, cellsAll w24, ints plainL, rfl, cellsAll x24, rfl, hK h24 FF⟩))))
end Go.Proofs.YtcdpakjhjmchhaaDoor.Ino
