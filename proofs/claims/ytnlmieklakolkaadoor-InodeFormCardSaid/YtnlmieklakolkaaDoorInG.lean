/-
  LAW InodeForm.
-/
import Derived.Test.YtnlmieklakolkaaDoorInF
namespace Go.Proofs.YtnlmieklakolkaaDoor.In
open Go Go.Proofs Go.Proofs.YtnlmieklakolkaaDoor.Wx Go.Proofs.YtnlmieklakolkaaDoor.Hp Go.Proofs.YtnlmieklakolkaaDoor.W Go.Proofs.YtnlmieklakolkaaDoor.Su Go.Proofs.YtnlmieklakolkaaDoor.Re Go.Proofs.YtnlmieklakolkaaDoor.Hd Go.Proofs.YtnlmieklakolkaaDoor.Tx

theorem xor_ne {a b : UInt8} (h : b ≠ 0) : a ^^^ b ≠ a := by
  intro e
  apply h
  have := congrArg (a ^^^ ·) e
  simp only [← UInt8.xor_assoc, UInt8.xor_self, UInt8.zero_xor] at this
  exact this
theorem xor_byte (b : UInt8) (r : Nat) (hr : r < 8) : Value.int .u8 (bitsI .xor .u8 (b.toNat : Int) (IntKind.wrap .u8 (1 * 2 ^ min r 8))) = bv (b ^^^ UInt8.ofNat (2 ^ r)) := by
  have hp : 2 ^ r < 256 := by
    have : 2 ^ r ≤ 2 ^ 7 := Nat.pow_le_pow_right (by decide) (by omega)
    omega
  have hb : b.toNat < 256 := b.toNat_lt
  have e1 : IntKind.wrap .u8 (1 * 2 ^ min r 8) = ((2 ^ r : Nat) : Int) := by
    rw [Nat.min_eq_left (by omega), Int.one_mul, show ((2 : Int) ^ r) = ((2 ^ r : Nat) : Int) by simp]
    exact wrap_u8 (Int.natCast_nonneg _) (by have : ((2 ^ r : Nat) : Int) < 256 := Int.ofNat_lt.mpr hp; omega)
  rw [e1, bv, UInt8.toNat_xor, UInt8.toNat_ofNat', Nat.mod_eq_of_lt (by exact hp)]
  congr 1
  show IntKind.wrap .u8 (((BitVec.ofInt 8 (b.toNat : Int) ^^^ BitVec.ofInt 8 ((2 ^ r : Nat) : Int)).toNat : Nat) : Int) = _
  rw [BitVec.toNat_xor, BitVec.ofInt_natCast, BitVec.ofInt_natCast, BitVec.toNat_ofNat, BitVec.toNat_ofNat, Nat.mod_eq_of_lt (by exact hb), Nat.mod_eq_of_lt (by exact hp)]
  have hx : b.toNat ^^^ 2 ^ r < 2 ^ 8 := Nat.xor_lt_two_pow (by exact hb) (by exact hp)
  exact wrap_u8 (Int.natCast_nonneg _) (by have : ((b.toNat ^^^ 2 ^ r : Nat) : Int) < 256 := Int.ofNat_lt.mpr hx; omega)
theorem pow_ne : ∀ r, r < 8 → UInt8.ofNat (2 ^ r) ≠ 0 := by decide
/-- a record brought into its bounds -/
def brX (k l s : Int) (R : List Int) : List Int := [k, l, s] ++ (R.drop 3).map (· % 4294967296)
theorem brX_length {k l s : Int} {R : List Int} (hR : R.length = 15) : (brX k l s R).length = 15 := by rw [brX, List.length_append, List.length_map, List.length_drop, hR]; rfl
theorem brX_get {k l s : Int} {R : List Int} (hR : R.length = 15) {j : Nat} (hj : j < 12) (h : 3 + j < (brX k l s R).length) : (brX k l s R)[3 + j] = R.getD (3 + j) 0 % 4294967296 := by
  have hj' : 3 + j < R.length := by omega
  simp only [brX]
  rw [List.getElem_append_right (by show 3 ≤ 3 + j; omega)]
  simp only [List.length_cons, List.length_nil, Nat.reduceAdd, Nat.add_sub_cancel_left, List.getElem_map, List.getElem_drop]
  rw [List.getD_eq_getElem?_getD, List.getElem?_eq_getElem hj']; rfl
theorem brX_may {k l s : Int} {R : List Int} (hR : R.length = 15) (hk : ∀ X, kindOk k l s X = true) : mayR (brX k l s R) = true := by
  have : (brX k l s R).drop 3 = (R.drop 3).map (· % 4294967296) := rfl
  rw [mayR, Bool.and_eq_true]
  refine ⟨?_, hk _⟩
  rw [this]
  refine List.all_eq_true.mpr fun x hx => ?_
  obtain ⟨y, _, rfl⟩ := List.mem_map.mp hx
  have h0 := Int.emod_nonneg y (show (4294967296 : Int) ≠ 0 by decide)
  have h1 := Int.emod_lt_of_pos y (show (0 : Int) < 4294967296 by decide)
  rw [wordOk, decide_eq_true h0, decide_eq_true (by omega)]; rfl
/-- what follows when kind, links and size are told -/
def brTail (b1 b2 b4 : Nat) (h10 : Heap) (K : Value → Heap → Prop) : Prop :=
  ∃ (I1 : Int → Heap → Prop) (M1 : Int → Heap → Nat), I1 0 h10 ∧
  ∀ (i1 : Int), ∀ h11 : Heap, I1 i1 h11 →
  bif (decide (i1 < 10)) then (
  (0 ≤ i1 ∧ i1 < (10 : Int)) ∧
  ∃ (n8 : Int), cellOf h11 (Addr.add (Addr.add ⟨b1, 0, none⟩ 3) (Int.toNat i1)) = some (.int .i64 n8) ∧
  C.bolelaw11_mod n8 4294967296 h11 fun r4 h12 =>
  ∃ (n9 : Int), r4 = .int .i64 n9 ∧
  (0 ≤ i1 ∧ i1 < (10 : Int)) ∧
  Put (Addr.add (Addr.add ⟨b4, 0, none⟩ 3) (Int.toNat i1)) (.int .i64 n9) h12 fun h13 =>
  I1 (IntKind.wrap .i64 (i1 + 1)) h13 ∧ M1 (IntKind.wrap .i64 (i1 + 1)) h13 < M1 i1 h11) else (
  ∃ (n10 : Int), cellOf h11 (Addr.add ⟨b1, 0, none⟩ 13) = some (.int .i64 n10) ∧
  C.bolelaw11_mod n10 4294967296 h11 fun r5 h14 =>
  ∃ (n11 : Int), r5 = .int .i64 n11 ∧
  Put (Addr.add ⟨b4, 0, none⟩ 13) (.int .i64 n11) h14 fun h15 =>
  ∃ (n12 : Int), cellOf h15 (Addr.add ⟨b1, 0, none⟩ 14) = some (.int .i64 n12) ∧
  C.bolelaw11_mod n12 4294967296 h15 fun r6 h16 =>
  ∃ (n13 : Int), r6 = .int .i64 n13 ∧
  Put (Addr.add ⟨b4, 0, none⟩ 14) (.int .i64 n13) h16 fun h17 =>
  ∃ cs1 : List Value, List.length cs1 = 15 ∧ Cells h17 ⟨b4, 0, none⟩ cs1 ∧
  PutRow ⟨b2, 0, none⟩ cs1 15 h17 fun h18 =>
  ∃ res1 : List Value, List.length res1 = 15 ∧ Cells h18 ⟨b2, 0, none⟩ res1 ∧
  K (.agg ⟨res1⟩) h18)
theorem brTail_spec {b1 b2 b4 : Nat} {k l s : Int} {R : List Int} {h h10 : Heap} {K : Value → Heap → Prop} (hR : R.length = 15) (f : Fr No h h10) (h2 : h.size ≤ b2) (h4 : h.size ≤ b4) (hne : b1 ≠ b4) (hne2 : b2 ≠ b4) (r1 : rd h10 b1 = ints R) (l1 : b1 < h10.size)
    (w2 : Own h10 b2) (l2 : (rd h10 b2).length = 15) (w4 : Own h10 b4) (r4 : rd h10 b4 = ints ((brX k l s R).take 3 ++ (List.replicate 12 0 ++ []))) (hK : ∀ h', Fr No h h' → K (.agg ⟨ints (brX k l s R)⟩) h') : brTail b1 b2 b4 h10 K := by
  have gl := brX_length (k := k) (l := l) (s := s) hR
  have ll : ∀ k', k' ≤ 15 → (ints ((brX k l s R).take k' ++ (List.replicate (15 - k') 0 ++ []))).length = 15 := fun k' hk => by
    rw [ints_length, List.length_append, List.length_append, List.length_take, List.length_replicate, gl, List.length_nil]; omega
  have fill : ∀ (k' : Nat) (hk : k' < 15) (v : Int), (brX k l s R)[k']'(by omega) = v → (ints ((brX k l s R).take k' ++ (List.replicate (15 - k') 0 ++ []))).set k' (.int .i64 v) = ints ((brX k l s R).take (k' + 1) ++ (List.replicate (15 - (k' + 1)) 0 ++ [])) := fun k' hk v e => by
    have := set_fill (brX k l s R) 0 [] k' (15 - k') (by omega) (by omega)
    rw [e] at this
    rw [show 15 - (k' + 1) = 15 - k' - 1 by omega, ← this, ints, ints, List.map_set]
  refine ⟨fun i hh => 0 ≤ i ∧ i ≤ 10 ∧ Fr (fun b => b = b4) h10 hh ∧ Own hh b4 ∧ rd hh b4 = ints ((brX k l s R).take (3 + i.toNat) ++ (List.replicate (12 - i.toNat) 0 ++ [])), fun i _ => ((10 : Nat) - i).toNat, ⟨by omega, by omega, Fr.refl _ _, w4, r4⟩, ?_⟩
  rintro i h11 ⟨i0, i1, f11, w11, r11⟩
  have l11 : (rd h11 b4).length = 15 := by
    have := ll (3 + i.toNat) (by omega)
    rw [r11, show 12 - i.toNat = 15 - (3 + i.toNat) by omega]; exact this
  have rx : rd h11 b1 = ints R := (f11.rd l1 hne).trans r1
  refine cd (fun hi => ?_) fun hi => ?_
  · have hi : i < 10 := hi
    refine ⟨⟨i0, hi⟩, _, cell15' rx (by omega), mod_spec (by decide) (by decide) ⟨_, rfl, ⟨i0, hi⟩, ?_⟩⟩
    rw [add_mk, wrap_i64 (by omega) (by omega)]
    refine Put.add w11 (by omega) fun h13 d13 => ⟨⟨by omega, by omega, f11.did d13 fun _ => rfl, d13.own, ?_⟩, falls (m := 10) hi⟩
    have e := fill (3 + i.toNat) (by omega) _ (brX_get hR (j := i.toNat) (by omega) (by omega))
    rw [d13.rd, r11, show 0 + 3 + i.toNat = 3 + i.toNat by omega, show 12 - i.toNat = 15 - (3 + i.toNat) by omega, show 3 + (i + 1).toNat = 3 + i.toNat + 1 by omega, show 12 - (i + 1).toNat = 15 - (3 + i.toNat + 1) by omega, ← e]
  · have hi : ¬ i < 10 := hi
    have ei : i.toNat = 10 := by omega
    rw [ei] at r11
    refine ⟨_, cell15 rx (by omega), mod_spec (by decide) (by decide) ⟨_, rfl, Put.add w11 (by omega) fun h15 d15 => ?_⟩⟩
    have e13 := fill 13 (by omega) _ (brX_get hR (j := 10) (by omega) (by omega))
    have r15 : rd h15 b4 = ints ((brX k l s R).take 14 ++ (List.replicate 1 0 ++ [])) := by rw [d15.rd, r11]; exact e13
    have f15 := f11.did d15 fun _ => rfl
    refine ⟨_, cell15 ((f15.rd l1 hne).trans r1) (by omega), mod_spec (by decide) (by decide) ⟨_, rfl, Put.add d15.own (by rw [r15, ll 14 (by omega)]; omega) fun h17 d17 => ?_⟩⟩
    have e14 := fill 14 (by omega) _ (brX_get hR (j := 11) (by omega) (by omega))
    have r17 : rd h17 b4 = ints (brX k l s R) := by
      rw [d17.rd, r15]
      have : ints ((brX k l s R).take 15 ++ (List.replicate 0 0 ++ [])) = ints (brX k l s R) := by rw [List.take_of_length_le (by omega)]; simp
      rw [← this]; exact e14
    have f17 := f15.did d17 fun _ => rfl
    have li : (ints (brX k l s R)).length = 15 := by rw [ints_length, gl]
    have e2 : rd h17 b2 = rd h10 b2 := f17.rd w2.lt hne2
    refine ⟨_, li, cellsAll r17, PutRow.intro (f17.own w2.lt hne2 w2) li (ints_one _) (by rw [e2]; omega) fun h18 d18 => ⟨_, li, cellsAll ?_, hK h18 ?_⟩⟩
    · rw [d18.rd, e2]; exact put_all _ _ (by rw [li, l2])
    · exact (f.trans f17 fun b hb e => by omega).did d18 fun hl => by omega
theorem brought_spec {R : List Int} {h : Heap} {K : Value → Heap → Prop} (hR : R.length = 15) (hK : ∀ P h', P.length = 15 → mayR P = true → Fr No h h' → K (.agg ⟨ints P⟩) h') : C.bolelaw11_brought (ints R) h K := by
  refine bolelaw11_brought.ok (New.intro fun h2 n2 => New.intro fun h3 n3 => ⟨_, cell15 ((n3.at_ n2.own.lt).trans n2.rd) (by omega), mod_spec (by decide) (by decide) ⟨_, rfl, ?_⟩⟩)
  have m0 := Int.emod_nonneg (R.getD 0 0) (show (3 : Int) ≠ 0 by decide)
  have m1 := Int.emod_lt_of_pos (R.getD 0 0) (show (0 : Int) < 3 by decide)
  generalize R.getD 0 0 % 3 = q at m0 m1
  rw [wrap_i64 (by omega) (by omega)]
  have s2 := n2.size
  have s3 := n3.size
  have F3 := n2.fr.new n3
  refine NewRow.intro (cs := ints [1 + q, 0, 0, 0, 0, 0, 0, 0, 0, 0, 0, 0, 0, 0, 0]) rfl (ints_one _) rfl fun h6 n6 => ?_
  have s6 := n6.size
  have F6 := F3.new n6
  have rx : rd h6 h.size = ints R := (n6.at_ (by omega)).trans ((n3.at_ n2.own.lt).trans n2.rd)
  have w2 : Own h6 h2.size := n6.ow n3.own
  have l2 : (rd h6 h2.size).length = 15 := by rw [n6.at_ (by omega), n3.rd]; rfl
  -- links and size are written, then the words
  have fin : ∀ {k l s : Int} {h8 h10 : Heap} {K' : Value → Heap → Prop}, k = 1 + q → (∀ X, kindOk k l s X = true) → Did h3.size h6 h8 ((rd h6 h3.size).set (0 + 1) (.int .i64 l)) → Did h3.size h8 h10 ((rd h8 h3.size).set (0 + 2) (.int .i64 s)) → brTail h.size h2.size h3.size h10 K := by
    intro k l s h8 h10 _ ek hk d8 d10
    subst ek
    refine brTail_spec (h := h) (k := 1 + q) (l := l) (s := s) hR ((F6.did d8 fun hl => by omega).did d10 fun hl => by omega) (by omega) (by omega) (by omega) (by omega) ?_ (by have := d8.size; have := d10.size; omega) (d10.ow (d8.ow w2)) ?_ d10.own ?_ fun h' f' => hK _ h' (brX_length hR) (brX_may hR hk) f'
    · rw [d10.at_ (by have := d8.size; omega) (by omega), d8.at_ (by omega) (by omega)]; exact rx
    · rw [d10.at_ (by have := d8.size; omega) (by omega), d8.at_ (by omega) (by omega)]; exact l2
    · rw [d10.rd, d8.rd, n6.rd]; rfl
  have lh : ∀ {h8 : Heap} {v : Value}, Did h3.size h6 h8 ((rd h6 h3.size).set (0 + 1) v) → 0 + 2 < (rd h8 h3.size).length ∧ rd h8 h.size = ints R := fun d8 => ⟨by rw [d8.rd, n6.rd, List.length_set]; show 0 + 2 < 15; omega, (d8.at_ (by omega) (by omega)).trans rx⟩
  refine ⟨_, rda n6.rd rfl, ce (fun e1 => ?_) fun e1 => ?_⟩
  · have b0 := Int.emod_nonneg (R.getD 1 0) (show (1001 : Int) ≠ 0 by decide)
    have b1 := Int.emod_lt_of_pos (R.getD 1 0) (show (0 : Int) < 1001 by decide)
    have c0 := Int.emod_nonneg (R.getD 2 0) (show (8459265 : Int) ≠ 0 by decide)
    have c1 := Int.emod_lt_of_pos (R.getD 2 0) (show (0 : Int) < 8459265 by decide)
    refine ⟨_, cell15 rx (by omega), mod_spec (by decide) (by decide) ⟨_, rfl, Put.add n6.own (by rw [n6.rd]; show 0 + 1 < 15; omega) fun h8 d8 => ⟨_, cell15 (lh d8).2 (by omega), mod_spec (by decide) (by decide) ⟨_, rfl, Put.add d8.own (lh d8).1 fun h10 d10 => ?_⟩⟩⟩⟩
    refine fin (K' := K) rfl (fun X => ?_) d8 d10
    rw [kindOk, if_neg (by omega), if_pos e1, decide_eq_true b0, decide_eq_true (show R.getD 1 0 % 1001 ≤ 1000 by omega), decide_eq_true c0, decide_eq_true (show R.getD 2 0 % 8459265 ≤ 8459264 by omega)]; rfl
  · refine ce (fun e2 => ?_) fun e2 => ?_
    · have b0 := Int.emod_nonneg (R.getD 1 0) (show (65534 : Int) ≠ 0 by decide)
      have b1 := Int.emod_lt_of_pos (R.getD 1 0) (show (0 : Int) < 65534 by decide)
      have c0 := Int.emod_nonneg (R.getD 2 0) (show (16523 : Int) ≠ 0 by decide)
      have c1 := Int.emod_lt_of_pos (R.getD 2 0) (show (0 : Int) < 16523 by decide)
      refine ⟨_, cell15 rx (by omega), mod_spec (by decide) (by decide) ⟨_, rfl, ?_⟩⟩
      rw [wrap_i64 (n := 2 + _) (by omega) (by omega)]
      refine Put.add n6.own (by rw [n6.rd]; show 0 + 1 < 15; omega) fun h8 d8 => ⟨_, cell15 (lh d8).2 (by omega), mod_spec (by decide) (by decide) ⟨_, rfl, ?_⟩⟩
      rw [wrap_i64 (n := 512 * _) (by omega) (by omega)]
      refine Put.add d8.own (lh d8).1 fun h10 d10 => fin (K' := K) rfl (fun X => ?_) d8 d10
      rw [kindOk, if_neg (by omega), if_neg (by omega), if_pos e2, decide_eq_true (show 2 ≤ 2 + R.getD 1 0 % 65534 by omega), decide_eq_true (show 2 + R.getD 1 0 % 65534 ≤ 65535 by omega), decide_eq_true (show 0 ≤ 512 * (R.getD 2 0 % 16523) by omega), decide_eq_true (show 512 * (R.getD 2 0 % 16523) ≤ 8459264 by omega), decide_eq_true (show 512 * (R.getD 2 0 % 16523) % 512 = 0 by omega)]; rfl
    · have b0 := Int.emod_nonneg (R.getD 1 0) (show (1000 : Int) ≠ 0 by decide)
      have b1 := Int.emod_lt_of_pos (R.getD 1 0) (show (0 : Int) < 1000 by decide)
      have c0 := Int.emod_nonneg (R.getD 2 0) (show (1024 : Int) ≠ 0 by decide)
      have c1 := Int.emod_lt_of_pos (R.getD 2 0) (show (0 : Int) < 1024 by decide)
      refine ⟨_, cell15 rx (by omega), mod_spec (by decide) (by decide) ⟨_, rfl, ?_⟩⟩
      rw [wrap_i64 (n := 1 + _) (by omega) (by omega)]
      refine Put.add n6.own (by rw [n6.rd]; show 0 + 1 < 15; omega) fun h8 d8 => ⟨_, cell15 (lh d8).2 (by omega), mod_spec (by decide) (by decide) ⟨_, rfl, ?_⟩⟩
      rw [wrap_i64 (n := 1 + _) (by omega) (by omega)]
      refine Put.add d8.own (lh d8).1 fun h10 d10 => fin (K' := K) rfl (fun X => ?_) d8 d10
      rw [kindOk, if_neg (by omega), if_neg (by omega), if_neg (by omega), if_pos (by omega), decide_eq_true (show 1 ≤ 1 + R.getD 1 0 % 1000 by omega), decide_eq_true (show 1 + R.getD 1 0 % 1000 ≤ 1000 by omega), decide_eq_true (show 1 ≤ 1 + R.getD 2 0 % 1024 by omega), decide_eq_true (show 1 + R.getD 2 0 % 1024 ≤ 1024 by omega)]; rfl
theorem set_ne {bs : List UInt8} {i : Nat} {x : UInt8} (hi : i < bs.length) (h : x ≠ bs[i]) : bs.set i x ≠ bs := by
  intro e
  have := congrArg (·[i]?) e
  simp only [List.getElem?_set_self hi, List.getElem?_eq_getElem hi, Option.some.injEq] at this
  exact h this
theorem decA_enc {P : List Int} (hP : P.length = 15) (hm : mayR P = true) : decA (encR P) = (P, 0) := by
  obtain ⟨e1, e2⟩ := getR_enc hP hm
  have : decOk (encR P) = true := by rw [decOk, e1, e2, hm]; rfl
  rw [decA, if_neg (by rw [encR_length hP]; decide), if_pos this, e1]
theorem encR_inj {P Q : List Int} (hP : P.length = 15) (hm : mayR P = true) (hQ : Q.length = 15) (hn : mayR Q = true) : decide (P = Q) = decide (encR P = encR Q) := by
  rw [Bool.eq_iff_iff, decide_eq_true_eq, decide_eq_true_eq]
  refine ⟨fun e => by rw [e], fun e => ?_⟩
  have := congrArg decA e
  rw [decA_enc hP hm, decA_enc hQ hn] at this
  exact congrArg Prod.fst this
theorem decA_clean {bs : List UInt8} (hb : bs.length = 64) : (decOk bs = true ∧ decA bs = (getR bs, 0) ∧ encR (getR bs) = bs ∧ mayR (getR bs) = true) ∨ decA bs = (z15, 111) := by
  cases e : decOk bs with
  | false => right; rw [decA, if_neg (by omega), e]; rfl
  | true =>
    left
    have e2 := e
    rw [decOk, Bool.and_eq_true] at e2
    exact ⟨rfl, by rw [decA, if_neg (by omega), e]; rfl, (enc_getR hb).mpr e2.1, e2.2⟩
theorem InodeForm_k2 {a ba : Option Addr} {l c : Nat} {bs : List UInt8} {P : List Int} {h5 h15 : Heap} {K : Value → Heap → Prop} (g : Glo h15) (B : StrAt h15 a l bs) (hlc : l ≤ c) (hP : P.length = 15) (hm : mayR P = true)
    (E : StrAt h15 ba 64 (encR P)) (rp : rd h15 h5.size = ints P) (lp : h5.size < h15.size) (hK : ∀ h', Fr No h15 h' → K (.bool true) h') : bolelaw11_InodeForm.k2 a l c h5 ba 64 h15 K := by
  have hl : l = bs.length := B.1.symm
  have le := encR_length hP
  refine ⟨fun i hh => 0 ≤ i ∧ i ≤ 64 ∧ Fr No h15 hh, fun i _ => ((64 : Nat) - i).toNat, ⟨by decide, by decide, Fr.refl _ _⟩, ?_⟩
  rintro i h16 ⟨i0, i1, f16⟩
  refine cd (fun hi => ?_) fun hi => ?_
  · have hi : i < 64 := hi
    refine New.intro fun h17 n17 => copy_from n17 (StrAt.fr f16 E fun _ _ x => x) (by decide) fun a3 c3 h18 f18 s18 => ⟨⟨i0, hi⟩, ?_⟩
    obtain ⟨p, rfl⟩ : ∃ p, a3 = some p := by
      obtain ⟨p, e, _⟩ := s18.get (by decide); exact ⟨p, e⟩
    have ep := s18.mk
    obtain ⟨b7, o7, sp⟩ := p
    simp only at ep
    cases ep
    have hb7 := sl_F s18
    simp only at hb7
    have hil : i.toNat < (encR P).length := by omega
    have cm : cellOf h18 (Addr.add ⟨b7, o7, none⟩ i.toNat) = some (bv (encR P)[i.toNat]) := by
      obtain ⟨p, e, cc⟩ := s18.get (by decide)
      cases e
      exact Cells.cell cc (by rw [List.getElem?_map, List.getElem?_eq_getElem hil]; rfl)
    have er : Int.tmod i 8 = i % 8 := Int.tmod_eq_emod_of_nonneg i0
    have hr : (Int.tmod i 8).toNat < 8 := by omega
    refine os ⟨_, cm, ?_⟩
    rw [if_neg (by omega), xor_byte _ _ hr]
    generalize hx : (encR P)[i.toNat] ^^^ UInt8.ofNat (2 ^ (Int.tmod i 8).toNat) = x
    have nx : x ≠ (encR P)[i.toNat] := by rw [← hx]; exact xor_ne (pow_ne _ hr)
    have ne := set_ne hil nx
    obtain ⟨w7, l7⟩ := s18.wr
    refine ⟨⟨i0, hi⟩, os (Put.add w7 (by omega) fun h19 d19 => ?_)⟩
    have B19 : StrAt h19 (some ⟨b7, o7, none⟩) 64 ((encR P).set i.toNat x) := by
      have := s18.putAt (new := [bv x]) (j := i.toNat) (by show i.toNat + 1 ≤ 64 * 1; omega) d19
      rw [put_one, ← List.map_set] at this; exact this.str
    have z17 := n17.size
    have z18 := f18.size
    have z16 := f16.size
    have F19 := (f16.no f18).did d19 fun hlt => by omega
    generalize (encR P).set i.toNat x = ts at B19 ne
    have lt : ts.length = 64 := B19.1
    refine Decode_spec (g.no F19) B19 s18.le fun h20 f20 => ⟨_, _, rfl, NewRow.intro (by rw [ints_length, decA_length]) (ints_one _) rfl fun h22 n22 => ?_⟩
    have F22 := (F19.no f20).new n22
    have nxt : (0 ≤ IntKind.wrap .i64 (i + 1) ∧ IntKind.wrap .i64 (i + 1) ≤ 64 ∧ Fr No h15 h22) ∧ (((64 : Nat) : Int) - IntKind.wrap .i64 (i + 1)).toNat < (((64 : Nat) : Int) - i).toNat := by
      rw [wrap_i64 (by omega) (by omega)]
      exact ⟨⟨by omega, by omega, F22⟩, falls (m := 64) hi⟩
    have rp22 : rd h22 h5.size = ints P := (F22.rd lp fun x => x).trans rp
    rcases decA_clean lt with ⟨_, e, e2, e3⟩ | e
    · have r22 := n22.rd
      rw [e] at r22 ⊢
      refine ct rfl ⟨_, by rw [ints_length, getR_length], cellsAll r22, _, by rw [ints_length, hP], cellsAll rp22, pairs15 (getR_length _) hP, ?_⟩
      rw [ints_eq]
      refine cd (fun h => ?_) fun _ => cf rfl nxt
      have h : getR ts = P := h
      rw [h] at e2
      exact absurd e2.symm ne
    · have r22 := n22.rd
      rw [e] at r22 ⊢
      refine cf rfl (ct rfl (cf rfl ⟨_, rfl, cellsAll r22, rfl, cf rfl nxt⟩))
  · refine Decode_spec (g.no f16) (StrAt.fr f16 B fun _ _ x => x) hlc fun h23 f23 => ⟨_, _, rfl, NewRow.intro (by rw [ints_length, decA_length]) (ints_one _) rfl fun h25 n25 => ?_⟩
    have r25 := n25.rd
    have F25 := (f16.no f23).new n25
    by_cases h64 : bs.length = 64
    · rcases decA_clean h64 with ⟨_, e, e2, e3⟩ | e
      · rw [e] at r25 ⊢
        refine cf rfl ⟨_, by rw [ints_length, getR_length], cellsAll r25, Encode_spec (g.no F25) (getR_length _) (fun x => by rw [e3] at x; cases x) fun _ b h26 f26 hb s26 => ⟨_, _, _, _, rfl, ct rfl ⟨_, s26.str, _, StrAt.fr (F25.no f26) B fun _ _ x => x, ?_⟩⟩⟩
        rw [str_eq, decide_eq_true e2]
        exact hK h26 (F25.no f26)
      · rw [e] at r25 ⊢
        refine ct rfl ⟨_, rfl, cellsAll r25, rfl, ct rfl ?_⟩
        have : (((111 : Int) == 32) == ((l : Int) != 64)) = true := by
          have : (l : Int) = 64 := by omega
          rw [this]; rfl
        rw [this]; exact hK h25 F25
    · have e : decA bs = (z15, 32) := by rw [decA, if_pos h64]
      rw [e] at r25 ⊢
      refine ct rfl ⟨_, rfl, cellsAll r25, rfl, ct rfl ?_⟩
      have : (((32 : Int) == 32) == ((l : Int) != 64)) = true := by
        have : ((l : Int) != 64) = true := by rw [bne_iff_ne]; omega
        rw [this]; rfl
      rw [this]; exact hK h25 F25
theorem InodeForm_spec {a : Option Addr} {l c : Nat} {bs : List UInt8} {R Q : List Int} {h : Heap} {K : Value → Heap → Prop} (g : Glo h) (hR : R.length = 15) (hQ : Q.length = 15) (B : StrAt h a l bs) (hlc : l ≤ c)
    (hK : ∀ h', Fr No h h' → K (.bool true) h') : C.bolelaw11_InodeForm (ints R) (ints Q) a l c h K := by
  refine bolelaw11_InodeForm.ok (New.intro fun h2 n2 => New.intro fun h3 n3 => fixed_spec (g.no (n2.fr.new n3)) fun h4 f4 => ⟨_, rfl, cnot (ct rfl ?_)⟩)
  have z2 := n2.size
  have z3 := n3.size
  have z4 := f4.size
  have F4 := (n2.fr.new n3).no f4
  have hlR : (ints R).length = 15 := by rw [ints_length, hR]
  have hlQ : (ints Q).length = 15 := by rw [ints_length, hQ]
  have rx : rd h4 h.size = ints R := (f4.rd (by omega) fun x => x).trans ((n3.at_ (by omega)).trans n2.rd)
  have ry : rd h4 h2.size = ints Q := (f4.rd (by omega) fun x => x).trans n3.rd
  refine ⟨_, hlR, cellsAll rx, brought_spec hR fun X h5 lX mX f5 => ⟨_, rfl, NewRow.intro (by rw [ints_length, lX]) (ints_one _) rfl fun h7 n7 => ?_⟩⟩
  have z5 := f5.size
  have z7 := n7.size
  have f7 := f5.new n7
  refine ⟨_, hlQ, cellsAll ((f7.rd (by omega) fun x => x).trans ry), brought_spec hQ fun Y h8 lY mY f8 => ⟨_, rfl, NewRow.intro (by rw [ints_length, lY]) (ints_one _) rfl fun h10 n10 => ?_⟩⟩
  have z8 := f8.size
  have z10 := n10.size
  have f10 := f8.new n10
  have F10 := (F4.no f7).no f10
  have hlX : (ints X).length = 15 := by rw [ints_length, lX]
  have hlY : (ints Y).length = 15 := by rw [ints_length, lY]
  have rX : ∀ {hq : Heap}, Fr No h10 hq → rd hq h5.size = ints X := fun fq => (fq.rd (by omega) fun x => x).trans ((f10.rd (by omega) fun x => x).trans n7.rd)
  have rY : ∀ {hq : Heap}, Fr No h10 hq → rd hq h8.size = ints Y := fun fq => (fq.rd (by omega) fun x => x).trans n10.rd
  refine ⟨_, hlX, cellsAll (rX (Fr.refl _ _)), Encode_spec (g.no F10) lX (fun x => by rw [mX] at x; cases x) fun _ b1 h11 f11 hb1 s11 => ⟨_, _, _, _, rfl, ?_⟩⟩
  refine ⟨_, hlY, cellsAll (rY f11), Encode_spec (g.no (F10.no f11)) lY (fun x => by rw [mY] at x; cases x) fun _ b2 h12 f12 hb2 s12 => ⟨_, _, _, _, rfl, ?_⟩⟩
  have f12' := f11.no f12
  have F12 := F10.no f12'
  have z11 := f11.size
  have z12 := f12.size
  have B1 := StrAt.fr f12 s11.str fun _ _ x => x
  refine cf rfl (cf rfl (cf rfl (cf rfl ⟨_, hlX, cellsAll (rX f12'), _, hlY, cellsAll (rY f12'), pairs15 lX lY, _, B1, _, s12.str, ?_⟩)))
  rw [ints_eq, str_eq, encR_inj lX mX lY mY, beq_self_eq_true]
  refine cf rfl (Decode_spec (g.no F12) B1 (Nat.le_refl _) fun h13 f13 => ?_)
  rw [decA_enc lX mX]
  refine ⟨_, _, rfl, NewRow.intro hlX (ints_one _) rfl fun h15 n15 => cf rfl ?_⟩
  have z13 := f13.size
  have z15 := n15.size
  have f15 := f13.new n15
  have F15 := F12.no f15
  refine ⟨_, hlX, cellsAll n15.rd, _, hlX, cellsAll (rX (f12'.no f15)), pairs15 lX lX, ?_⟩
  rw [ints_eq, decide_eq_true rfl]
  exact cf rfl (InodeForm_k2 (g.no F15) (StrAt.fr F15 B fun _ _ x => x) hlc lX mX (StrAt.fr f15 B1 fun _ _ x => x) (rX (f12'.no f15)) (by omega) fun h' f' => hK h' (F15.no f'))
end Go.Proofs.YtnlmieklakolkaaDoor.In
