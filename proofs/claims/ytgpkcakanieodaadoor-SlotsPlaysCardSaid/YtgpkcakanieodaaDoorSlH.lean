/-
  THE DOCUMENT'S ANSWER FOR slots (boleref14): the same as the program's.
-/
import Derived.Test.YtgpkcakanieodaaDoorSlG
namespace Go.Proofs.YtgpkcakanieodaaDoor.Ss
open Go Go.Proofs Go.Proofs.YtgpkcakanieodaaDoor.Wx Go.Proofs.YtgpkcakanieodaaDoor.Hp Go.Proofs.YtgpkcakanieodaaDoor.W Go.Proofs.YtgpkcakanieodaaDoor.Re Go.Proofs.YtgpkcakanieodaaDoor.Sk Go.Proofs.YtgpkcakanieodaaDoor.Ch

theorem refName_spec {s : List UInt8} {h : Heap} {K : Value → Heap → Prop} (hK : K (.bool (nameOk s)) h) : C.boleref14_Name (mkStr s) h K := by
  have hsz : (mkStr s).size = s.length := rfl
  refine boleref14_Name.ok ?_
  unfold boleref14_Name
  rw [hsz, toList_mkStr, toList_mkStr, toList_mkStr]
  have no : nameOk s = false → K (.bool false) h := fun e => by rw [← e]; exact hK
  have nn : ∀ x : Prop, (NameOk s → x) → ¬ x → nameOk s = false := fun x hx hn => by
    cases e : nameOk s with
    | false => rfl
    | true => exact absurd (hx (nameOk_iff.mp e)) hn
  refine cd (fun x => no (nn _ (fun e => e.pos) (by omega))) fun x1 => cd (fun x => no (nn _ (fun e => e.le) (by omega))) fun x2 => cs (fun x => no (nn _ (fun e => e.dot) (by simpa using x))) fun x3 => cs (fun x => no (nn _ (fun e => e.dots) (by simpa using x))) fun x4 => ?_
  have x3 : s ≠ [46] := by simpa using x3
  have x4 : s ≠ [46, 46] := by simpa using x4
  unfold boleref14_Name.k1
  rw [hsz]
  refine ⟨fun i hh => 0 ≤ i ∧ i ≤ s.length ∧ h = hh ∧ (s.take i.toNat).any isBad = false, fun i _ => ((s.length : Int) - i).toNat, ⟨by omega, by omega, rfl, rfl⟩, ?_⟩
  rintro i _ ⟨i0, i1, rfl, q⟩
  refine cd (fun hi => ?_) fun hi => ?_
  · have hi' : i.toNat < s.length := by omega
    have gs : (mkStr s).toList[i.toNat]? = some s[i.toNat] := by rw [toList_mkStr, List.getElem?_eq_getElem hi']
    have mem : s[i.toNat] ∈ s := List.getElem_mem hi'
    refine ⟨⟨i0, hi⟩, _, gs, ce (fun x => no (nn _ (fun e => (e.all _ mem).1) ?_)) fun x => ⟨⟨i0, hi⟩, _, gs, ce (fun y => no (nn _ (fun e => (e.all _ mem).2) ?_)) fun y => ?_⟩⟩
    · intro hne; exact hne (UInt8.toNat_inj.mp (by have : ((s[i.toNat].toNat : Nat) : Int) = 47 := x; show _ = 47; omega))
    · intro hne; exact hne (UInt8.toNat_inj.mp (by have : ((s[i.toNat].toNat : Nat) : Int) = 0 := y; show _ = 0; omega))
    · rw [wrap_i64 (by omega) (by omega)]
      refine ⟨⟨by omega, by omega, rfl, ?_⟩, by show ((s.length : Int) - (i + 1)).toNat < ((s.length : Int) - i).toNat; omega⟩
      rw [show (i + 1).toNat = i.toNat + 1 by omega, List.take_succ_eq_append_getElem hi', List.any_append, q, List.any_cons, ← bad_nat, decide_eq_false (by omega), decide_eq_false (by omega)]; rfl
  · rw [List.take_of_length_le (by omega)] at q
    have : nameOk s = true := nameOk_iff.mpr ⟨by omega, by omega, x3, x4, fun b hb => by
      have := List.any_eq_false.mp q b hb
      unfold isBad at this
      simpa using this⟩
    rw [this] at hK; exact hK
theorem number_spec {a : Option Addr} {l c : Nat} {bs : List UInt8} {h : Heap} {K : Value → Heap → Prop} (B : StrAt h a l bs) (hl : 4 ≤ l) (hK : K (.int .i64 (leN (bs.take 4) : Nat)) h) : C.boleref14_number a l c h K := by
  have hb := B.1
  obtain ⟨p, rfl, c0⟩ := byte_get B (i := 0) (by omega)
  obtain ⟨_, e, c1⟩ := byte_get B (i := 1) (by omega)
  cases e
  obtain ⟨_, e, c2⟩ := byte_get B (i := 2) (by omega)
  cases e
  obtain ⟨_, e, c3⟩ := byte_get B (i := 3) (by omega)
  cases e
  have eb : bs.take 4 = [bs[0], bs[1], bs[2], bs[3]] := by
    apply List.ext_getElem
    · rw [List.length_take]; simp; omega
    · intro i h1 h2
      have h2 : i < 4 := h2
      rw [List.getElem_take]
      obtain rfl | rfl | rfl | rfl : i = 0 ∨ i = 1 ∨ i = 2 ∨ i = 3 := by omega
      all_goals rfl
  have t0 := (bs[0]).toNat_lt
  have t1 := (bs[1]).toNat_lt
  have t2 := (bs[2]).toNat_lt
  have t3 := (bs[3]).toNat_lt
  rw [eb] at hK
  simp only [leN] at hK
  refine boleref14_number.ok ⟨⟨by omega, by omega⟩, os ⟨_, c0, ⟨by omega, by omega⟩, os ⟨_, c1, ⟨by omega, by omega⟩, os ⟨_, c2, ⟨by omega, by omega⟩, os ⟨_, c3, ?_⟩⟩⟩⟩⟩
  generalize bs[0].toNat = x0 at *
  generalize bs[1].toNat = x1 at *
  generalize bs[2].toNat = x2 at *
  generalize bs[3].toNat = x3 at *
  rw [wrap_i64 (n := (x0 : Int)) (by omega) (by omega), wrap_i64 (n := (x1 : Int)) (by omega) (by omega), wrap_i64 (n := (x2 : Int)) (by omega) (by omega), wrap_i64 (n := (x3 : Int)) (by omega) (by omega),
    wrap_i64 (n := 256 * (x1 : Int)) (by omega) (by omega), wrap_i64 (n := 65536 * (x2 : Int)) (by omega) (by omega), wrap_i64 (n := 16777216 * (x3 : Int)) (by omega) (by omega),
    wrap_i64 (n := (x0 : Int) + 256 * x1) (by omega) (by omega), wrap_i64 (n := (x0 : Int) + 256 * x1 + 65536 * x2) (by omega) (by omega), wrap_i64 (n := (x0 : Int) + 256 * x1 + 65536 * x2 + 16777216 * x3) (by omega) (by omega)]
  have : (x0 : Int) + 256 * x1 + 65536 * x2 + 16777216 * x3 = ((x0 + 256 * (x1 + 256 * (x2 + 256 * (x3 + 256 * 0))) : Nat) : Int) := by omega
  rw [this]; exact hK
def Z32 : List UInt8 := List.replicate 32 0
theorem Z32_length : Z32.length = 32 := List.length_replicate
theorem form_spec {i : Int} {s : List UInt8} {h : Heap} {K : Value → Heap → Prop} (gd : Sk.Good (i.toNat, s)) (i0 : 0 ≤ i)
    (hK : ∀ h', Fr No h h' → Sl h' 1 (some ⟨h.size, 0, none⟩) 32 32 ((form i.toNat s).map bv) (fun x => x = h.size) → K (.slice (some ⟨h.size, 0, none⟩) 32 32) h') : C.boleref14_form i (mkStr s) h K := by
  have hsz : (mkStr s).size = s.length := rfl
  refine boleref14_form.ok ?_
  unfold boleref14_form
  rw [hsz]
  refine ⟨⟨by omega, by omega, by omega, by omega⟩, New.intro fun h2 n2 => ?_⟩
  have hs2 := n2.size
  have r2 : rd h2 h.size = Z32.map bv := n2.rd.trans (rep_bytes 32)
  have slice : ∀ {hh : Heap} {xs : List UInt8}, xs.length = 32 → Own hh h.size → rd hh h.size = xs.map bv → Sl hh 1 (some ⟨h.size, 0, none⟩) 32 32 (xs.map bv) (fun x => x = h.size) := by
    intro hh xs hx w r
    have e : (xs.map bv).length = 32 := by rw [List.length_map, hx]
    refine ⟨by omega, rfl, rfl, w, Nat.le_refl _, ?_, ?_⟩
    · simp only [r, List.drop_zero, List.take_length]
    · simp only [r]; omega
  refine ce (fun h0 => hK h2 n2.fr ?_) fun h0 => ?_
  · have ef : form i.toNat s = Z32 := by rw [form, if_pos (by omega)]; rfl
    rw [ef]; exact slice Z32_length n2.own r2
  rcases gd with ⟨x, _⟩ | ⟨g1, g2, g3⟩
  · have x : i.toNat = 0 := x; omega
  have g2 : i.toNat < 4294967296 := g2
  have nm := nameOk_iff.mp g3
  have nle : s.length ≤ 27 := nm.le
  have lB := leB_length 4 i.toNat
  have zl : (Z32.map bv).length = 32 := by rw [List.length_map, Z32_length]
  refine ⟨fun v k hh => 0 ≤ k ∧ k ≤ 4 ∧ v = ((i.toNat / 256 ^ k.toNat : Nat) : Int) ∧ Fr No h hh ∧ Own hh h.size ∧ rd hh h.size = put (Z32.map bv) 0 (((leB 4 i.toNat).take k.toNat).map bv), fun _ k _ => ((4 : Nat) - k).toNat,
    ⟨by omega, by omega, by rw [show (0 : Int).toNat = 0 from rfl, Nat.pow_zero, Nat.div_one]; omega, n2.fr, n2.own, r2⟩, ?_⟩
  rintro v k h3 ⟨k0, k1, rfl, f3, w3, r3⟩
  refine cd (fun hk => ?_) fun hk => ?_
  · have hk : k < 4 := hk
    refine ⟨⟨k0, by show k < 32; omega⟩, Put.add w3 (by rw [r3, put_length, zl]; omega) fun h4 d4 => ?_⟩
    have hkB : k.toNat < (leB 4 i.toNat).length := by omega
    have pl : 256 ^ k.toNat ≤ 256 ^ 4 := Nat.pow_le_pow_right (by decide) (by omega)
    have hq : i.toNat / 256 ^ k.toNat ≤ i.toNat := Nat.div_le_self _ _
    have t1 : ∀ q : Nat, Int.tmod (q : Int) 256 = ((q % 256 : Nat) : Int) := fun q => by rw [Int.tmod_eq_emod_of_nonneg (by omega)]; omega
    have t2 : ∀ q : Nat, Int.tdiv (q : Int) 256 = ((q / 256 : Nat) : Int) := fun q => by rw [Int.tdiv_eq_ediv_of_nonneg (by omega)]; omega
    have t3 : ∀ q : Nat, q ≤ i.toNat → IntKind.wrap .i64 (q : Int) = q := fun q hq => wrap_i64 (by omega) (by omega)
    have e1 : Int.tmod ((i.toNat / 256 ^ k.toNat : Nat) : Int) 256 = ((i.toNat / 256 ^ k.toNat % 256 : Nat) : Int) := t1 _
    have e2 : Int.tdiv ((i.toNat / 256 ^ k.toNat : Nat) : Int) 256 = ((i.toNat / 256 ^ (k.toNat + 1) : Nat) : Int) := by
      rw [t2, Nat.pow_succ, ← Nat.div_div_eq_div_mul]
    have hq2 : i.toNat / 256 ^ (k.toNat + 1) ≤ i.toNat := Nat.div_le_self _ _
    have eb : Value.int .u8 (IntKind.wrap .u8 ((i.toNat / 256 ^ k.toNat % 256 : Nat) : Int)) = bv (UInt8.ofNat (i.toNat / 256 ^ k.toNat)) := by
      rw [wrap_u8 (by omega) (by omega)]
      show _ = Value.int .u8 ((UInt8.ofNat (i.toNat / 256 ^ k.toNat)).toNat : Int)
      rw [UInt8.toNat_ofNat']
    rw [e1, eb] at d4
    rw [e2, wrap_i64 (n := k + 1) (by omega) (by omega), t3 _ hq2]
    refine ⟨⟨by omega, by omega, by rw [show (k + 1).toNat = k.toNat + 1 by omega], f3.did d4 fun x => by omega, d4.own, ?_⟩, falls (m := 4) hk⟩
    have hl1 : ((leB 4 i.toNat).take k.toNat).length = k.toNat := by rw [List.length_take]; omega
    have ee : (leB 4 i.toNat)[k.toNat] = UInt8.ofNat (i.toNat / 256 ^ k.toNat) := by simp only [leB, List.getElem_map, List.getElem_range]
    rw [d4.rd, r3, show (k + 1).toNat = k.toNat + 1 by omega, List.take_succ_eq_append_getElem hkB, List.map_append, List.map_singleton, ee, put_snoc, List.length_map, hl1]
  · have hk : ¬ k < 4 := hk
    rw [List.take_of_length_le (by omega)] at r3
    refine ⟨⟨by omega, by omega⟩, Put.add w3 (by rw [r3, put_length, zl]; show 0 + 4 < 32; omega) fun h5 d5 => ?_⟩
    have elen : Value.int .u8 (IntKind.wrap .u8 ((s.length : Nat) : Int)) = bv (UInt8.ofNat s.length) := by
      rw [wrap_u8 (by omega) (by omega)]
      show _ = Value.int .u8 ((UInt8.ofNat s.length).toNat : Int)
      rw [UInt8.toNat_ofNat', Nat.mod_eq_of_lt (by omega)]
    rw [elen, r3] at d5
    have f5 : Fr No h h5 := f3.did d5 fun x => by omega
    have r5 : rd h5 h.size = put (put (Z32.map bv) 0 ((leB 4 i.toNat).map bv)) 4 [bv (UInt8.ofNat s.length)] := d5.rd
    refine ⟨fun j hh => 0 ≤ j ∧ j ≤ s.length ∧ Fr No h hh ∧ Own hh h.size ∧ rd hh h.size = put (put (put (Z32.map bv) 0 ((leB 4 i.toNat).map bv)) 4 [bv (UInt8.ofNat s.length)]) 5 ((s.take j.toNat).map bv), fun j _ => ((s.length : Int) - j).toNat,
      ⟨by omega, by omega, f5, d5.own, r5⟩, ?_⟩
    rintro j h6 ⟨j0, j1, f6, w6, r6⟩
    refine cd (fun hj => ?_) fun hj => ?_
    · have hj' : j.toNat < s.length := by omega
      rw [wrap_i64 (n := 5 + j) (by omega) (by omega), wrap_i64 (n := j + 1) (by omega) (by omega)]
      refine ⟨⟨j0, hj⟩, s[j.toNat], by rw [toList_mkStr, List.getElem?_eq_getElem hj'], ⟨by omega, by show 5 + j < 32; omega⟩, Put.add w6 (by rw [r6, put_length, put_length, put_length, zl]; omega) fun h7 d7 => ?_⟩
      refine ⟨⟨by omega, by omega, f6.did d7 fun x => by omega, d7.own, ?_⟩, by show ((s.length : Int) - (j + 1)).toNat < ((s.length : Int) - j).toNat; omega⟩
      have hl1 : (s.take j.toNat).length = j.toNat := by rw [List.length_take]; omega
      rw [d7.rd, r6, show (j + 1).toNat = j.toNat + 1 by omega, List.take_succ_eq_append_getElem hj', List.map_append, List.map_singleton, put_snoc, List.length_map, hl1, show 0 + (5 + j).toNat = 5 + j.toNat by omega]
      rfl
    · rw [List.take_of_length_le (by omega)] at r6
      have fl : (form i.toNat s).length = 32 := form_length (Or.inr ⟨g1, g2, g3⟩)
      refine hK h6 f6 (slice fl w6 (r6.trans ?_))
      have key : ∀ (X A B C : List Value), A.length = 4 → B.length = 1 → put (put (put X 0 A) 4 B) 5 C = put X 0 (A ++ (B ++ C)) := by
        intro X A B C h1 h2
        rw [put_app, put_app, h1, h2]
      rw [key _ _ _ _ (by rw [List.length_map]; exact lB) rfl, put_eq _ _ _ (by rw [List.length_append, List.length_append, List.length_map, List.length_map, zl, lB, List.length_singleton]; omega)]
      rw [form, if_neg (by omega), List.map_append, List.map_cons, List.map_append, List.take_zero, List.nil_append, List.append_assoc]
      congr 1
      rw [List.append_assoc]
      show bv _ :: (s.map bv ++ _) = _
      congr 2
      rw [List.length_append, List.length_append, List.length_map, List.length_map, lB, List.length_singleton, Z32, ← List.map_drop, List.drop_replicate]
      congr 2
      omega
/-- a cell is of its one form, or none -/
theorem one_zero {bs : List UInt8} (hb : bs.length = 32) (h0 : leN (bs.take 4) = 0) : one bs = if bs = form 0 [] then some (0, []) else none := by
  split
  · rename_i h; rw [h]; exact one_form zero_good
  · rename_i h
    rw [one, if_pos h0]
    split
    · rename_i hz
      exfalso
      apply h
      have := allZero_rep hz
      rw [hb] at this
      exact this
    · rfl
theorem one_name {bs : List UInt8} (hb : bs.length = 32) (h0 : leN (bs.take 4) ≠ 0) (hn : (bs.getD 4 0).toNat ≤ 27) (hnm : nameOk ((bs.drop 5).take (bs.getD 4 0).toNat) = true) :
    one bs = if bs = form (leN (bs.take 4)) ((bs.drop 5).take (bs.getD 4 0).toNat) then some (leN (bs.take 4), (bs.drop 5).take (bs.getD 4 0).toNat) else none := by
  have lt := leN_lt (bs.take 4)
  rw [List.length_take, show min 4 bs.length = 4 by omega] at lt
  have pos := (nameOk_iff.mp hnm).pos
  rw [List.length_take] at pos
  split
  · rename_i h
    have := one_form (x := (leN (bs.take 4), (bs.drop 5).take (bs.getD 4 0).toNat)) (Or.inr ⟨by show 1 ≤ leN _; omega, lt, hnm⟩)
    conv => lhs; rw [h]
    exact this
  · rename_i h
    cases e : one bs with
    | none => rfl
    | some x =>
      exfalso
      apply h
      have e' := e
      obtain ⟨_, e2⟩ := form_one hb e
      rw [one, if_neg h0, if_neg (by omega)] at e'
      split at e'
      · obtain rfl := Option.some.inj e'
        exact e2
      · cases e'
theorem one_long {bs : List UInt8} (h0 : leN (bs.take 4) ≠ 0) (hn : 27 < (bs.getD 4 0).toNat ∨ nameOk ((bs.drop 5).take (bs.getD 4 0).toNat) = false) : one bs = none := by
  rw [one, if_neg h0]
  split
  · rfl
  · rename_i h
    rcases hn with hn | hn
    · omega
    · rw [hn, Bool.and_false]; rfl
theorem one_k1 {a : Option Addr} {bs : List UInt8} {i : Nat} {s : List UInt8} {h : Heap} {K : Value → Heap → Prop} (B : StrAt h a 32 bs) (gd : Sk.Good (i, s)) (ho : one bs = if bs = form i s then some (i, s) else none)
    (hK : ∀ h' x, Fr No h h' → one bs = some x → K (.tuple #[.int .i64 (x.1 : Nat), .string (mkStr x.2), .bool true]) h') (hN : ∀ h' n s, Fr No h h' → one bs = none → K (.tuple #[.int .i64 n, .string s, .bool false]) h') : boleref14_one.k1 a 32 (i : Int) (mkStr s) h K := by
  have hb := B.1
  have fl : (form i s).length = 32 := form_length gd
  unfold boleref14_one.k1
  refine form_spec (i := (i : Int)) (by rw [Int.toNat_natCast]; exact gd) (by omega) fun h5 f5 s5 => ⟨_, _, _, rfl, ?_⟩
  rw [Int.toNat_natCast] at s5
  have B5 := StrAt.fr f5 B fun _ _ x => x
  refine ⟨fun k hh => 0 ≤ k ∧ k ≤ 32 ∧ h5 = hh ∧ bs.take k.toNat = (form i s).take k.toNat, fun k _ => ((32 : Nat) - k).toNat, ⟨by omega, by omega, rfl, rfl⟩, ?_⟩
  rintro k _ ⟨k0, k1, rfl, e⟩
  refine cd (fun hk => ?_) fun hk => ?_
  · have hk : k < 32 := hk
    obtain ⟨p, rfl, ca⟩ := byte_get B5 (i := k.toNat) (by omega)
    obtain ⟨_, eq, cb⟩ := byte_get s5.str (i := k.toNat) (by omega)
    cases eq
    refine ⟨⟨k0, by omega⟩, os ⟨_, ca, ⟨k0, by omega⟩, os ⟨_, cb, cn (fun hne => hN h5 _ _ f5 ?_) fun heq => ?_⟩⟩⟩
    · rw [ho, if_neg]
      rintro rfl; exact hne rfl
    · rw [wrap_i64 (by omega) (by omega)]
      refine ⟨⟨by omega, by omega, rfl, ?_⟩, falls (m := 32) hk⟩
      have : bs[k.toNat]'(by omega) = (form i s)[k.toNat]'(by omega) := UInt8.toNat_inj.mp (by exact_mod_cast heq)
      rw [show (k + 1).toNat = k.toNat + 1 by omega, List.take_succ_eq_append_getElem (show k.toNat < bs.length by omega), List.take_succ_eq_append_getElem (show k.toNat < (form i s).length by omega), e, this]
  · have hk : ¬ k < 32 := hk
    rw [List.take_of_length_le (by omega), List.take_of_length_le (by omega)] at e
    exact hK h5 (i, s) f5 (by rw [ho, if_pos e])
theorem refOne_spec {a : Option Addr} {c : Nat} {bs : List UInt8} {h : Heap} {K : Value → Heap → Prop} (B : StrAt h a 32 bs) (hc : 32 ≤ c)
    (hK : ∀ h' x, Fr No h h' → one bs = some x → K (.tuple #[.int .i64 (x.1 : Nat), .string (mkStr x.2), .bool true]) h') (hN : ∀ h' n s, Fr No h h' → one bs = none → K (.tuple #[.int .i64 n, .string s, .bool false]) h') : C.boleref14_one a 32 c h K := by
  have hb := B.1
  refine boleref14_one.ok (number_spec B (by omega) ⟨_, rfl, ?_⟩)
  have lt : leN (bs.take 4) < 4294967296 := by
    have := leN_lt (bs.take 4)
    rw [List.length_take, show min 4 bs.length = 4 by omega] at this
    exact this
  have h4 : 4 < bs.length := by omega
  have e4 : bs.getD 4 0 = bs[4] := by rw [List.getD_eq_getElem?_getD, List.getElem?_eq_getElem h4]; rfl
  have bt := (bs[4]).toNat_lt
  refine cn (fun h0 => ?_) fun h0 => ?_
  · have h0 : leN (bs.take 4) ≠ 0 := by omega
    obtain ⟨p, rfl, c4⟩ := byte_get B h4
    refine ⟨⟨by omega, by omega⟩, os ⟨_, c4, ?_⟩⟩
    have nm := one_name hb h0
    have lo := one_long (bs := bs) h0
    rw [e4] at nm lo
    generalize bs[4].toNat = n at bt nm lo
    rw [wrap_i64 (n := (n : Int)) (by omega) (by omega), wrap_i64 (n := 5 + (n : Int)) (by omega) (by omega)]
    refine cd (fun hn => hN h _ _ (Fr.refl _ _) (lo (Or.inl (by omega)))) fun hn => ⟨⟨by omega, by omega, by omega⟩, (bs.drop 5).take n, ?_, ?_⟩
    · have := StrAt.cut B hc (i := 5) (j := 5 + n) (by omega) (by omega)
      rw [show 5 + n - 5 = n by omega] at this
      rw [show (5 + (n : Int)).toNat - Int.toNat 5 = n by omega]
      exact this
    · refine refName_spec ⟨_, rfl, cnot ?_⟩
      cases hnm : nameOk ((bs.drop 5).take n) with
      | false => exact hN h _ _ (Fr.refl _ _) (lo (Or.inr hnm))
      | true => exact ct rfl (one_k1 B (Or.inr ⟨by show 1 ≤ leN _; omega, lt, hnm⟩) (nm (by omega) hnm) hK hN)
  · have h0 : leN (bs.take 4) = 0 := by omega
    rw [h0]
    exact one_k1 (i := 0) (s := []) B zero_good (one_zero hb h0) hK hN
theorem refRead_spec {a : Option Addr} {l c : Nat} {bs : List UInt8} {h : Heap} {K : Value → Heap → Prop} (B : StrAt h a l bs) (hlc : l ≤ c)
    (hK : ∀ h' a' l' c', Fr No h h' → Sl h' 3 a' l' c' ((ans bs).1.flatMap E.v) (From h.size) → K (.tuple #[.slice a' l' c', .int .i64 (ans bs).2]) h') : C.boleref14_Read a l c h K := by
  have hb := B.1
  refine boleref14_Read.ok (cn (fun hl => ?_) fun hl => ?_)
  · have e : ans bs = ([], 32) := by rw [ans, if_pos (by omega)]
    rw [e] at hK
    exact hK h none 0 0 (Fr.refl _ _) (Sl.nil _ _ _)
  have hl : l = 512 := by omega
  have e : ans bs = match dec 16 bs with
    | none => ([], 140)
    | some hs => (ents 0 hs, 0) := by rw [ans, if_neg (by omega)]; cases dec 16 bs <;> rfl
  refine ⟨fun la ll lc n hh => 0 ≤ n ∧ n ≤ 16 ∧ Fr No h hh ∧ ∃ pre : List (Nat × Txt), pre.length = n.toNat ∧ dec 16 bs = (dec (16 - n.toNat) (bs.drop (32 * n.toNat))).map (pre ++ ·) ∧ Sl hh 3 la ll lc ((ents 0 pre).flatMap E.v) (From h.size), fun _ _ _ n _ => (16 - n).toNat,
    ⟨by omega, by omega, Fr.refl _ _, [], rfl, by rw [show (0 : Int).toNat = 0 from rfl, Nat.mul_zero, List.drop_zero]; simp, Sl.nil _ _ _⟩, ?_⟩
  rintro la ll lc n h2 ⟨n0, n1, f2, pre, pl, pd, ps⟩
  have hs2 := f2.size
  have pll := ents_len pre 0
  have hll : ll = (ents 0 pre).length := by
    have := ps.1
    rw [flat_length E.v 3 _ (fun x _ => E.len x)] at this
    omega
  refine cd (fun hn => ?_) fun hn => ?_
  · rw [dec_step (by omega)] at pd
    rw [wrap_i64 (n := 32 * n) (by omega) (by omega), wrap_i64 (n := 32 * n + 32) (by omega) (by omega), wrap_i64 (n := n + 1) (by omega) (by omega)]
    refine ⟨⟨by omega, by omega, by omega⟩, ?_⟩
    have B2 := StrAt.cut (StrAt.fr f2 B fun _ _ x => x) hlc (i := 32 * n.toNat) (j := 32 * n.toNat + 32) (by omega) (by omega)
    rw [show (32 * n).toNat = 32 * n.toNat by omega, show (32 * n + 32).toNat - 32 * n.toNat = 32 by omega]
    rw [show 32 * n.toNat + 32 - 32 * n.toNat = 32 by omega] at B2
    refine refOne_spec B2 (by omega) (fun h4 x f4 ho => ⟨_, _, _, rfl, ?_⟩) fun h4 m s f4 ho => ⟨_, _, _, rfl, ?_⟩
    · have f24 := f2.no f4
      rw [ho] at pd
      have pd' : dec 16 bs = (dec (16 - (n + 1).toNat) (bs.drop (32 * (n + 1).toNat))).map ((pre ++ [x]) ++ ·) := by
        rw [pd, show (n + 1).toNat = n.toNat + 1 by omega]
        cases dec (16 - (n.toNat + 1)) (bs.drop (32 * (n.toNat + 1))) with
        | none => rfl
        | some r => simp
      have ee : ents 0 (pre ++ [x]) = ents 0 pre ++ (if x.1 = 0 then [] else [⟨n, x.2, x.1⟩]) := by
        rw [ents_append, pl, ents, ents, show ((0 + n.toNat : Nat) : Int) = n by omega]
      have ps4 := ps.fr f4 fun _ _ _ x => x
      refine cf rfl (cn (fun hx => ⟨rfl, New.intro fun h5 n5 => ⟨E.v ⟨n, x.2, x.1⟩, rfl, cellsAll n5.rd, E.one _, ?_⟩⟩) fun hx => ⟨⟨by omega, by omega, f24, pre ++ [x], by rw [List.length_append, pl, List.length_singleton]; omega, pd', ?_⟩, by show (16 - (n + 1)).toNat < (16 - n).toNat; omega⟩)
      · have hx0 : x.1 ≠ 0 := fun e => hx (by rw [e]; rfl)
        rw [if_neg hx0] at ee
        have f25 := f24.new n5
        have hs5 := f25.size
        have hbytes : (ti30).bytes = 32 := rfl
        refine append_own (elem := ti30) (ps4.fr n5.fr fun _ _ _ x => x) rfl rfl (by rw [hbytes]; omega) (by omega) fun a' c' h6 f6 s6 => ⟨⟨by omega, by omega, ?_, pre ++ [x], by rw [List.length_append, pl, List.length_singleton]; omega, pd', ?_⟩, by show (16 - (n + 1)).toNat < (16 - n).toNat; omega⟩
        · exact f25.trans f6 fun b hb hF => by have : h.size ≤ b := hF; omega
        · rw [ee, List.flatMap_append]
          refine Sl.mono (s6 : Sl h6 3 a' (ll + 1) c' _ _) fun b hF => ?_
          rcases hF with hF | hF
          · exact hF
          · show h.size ≤ b; omega
      · have hx0 : x.1 = 0 := by omega
        rw [if_pos hx0, List.append_nil] at ee
        rw [ee]; exact ps4
    · rw [ho] at pd
      have e2 : ans bs = ([], 140) := by rw [e, pd]; rfl
      rw [e2] at hK
      exact ct rfl (hK h4 none 0 0 (f2.no f4) (Sl.nil _ _ _))
  · have en : n.toNat = 16 := by omega
    rw [en] at pd
    have e2 : ans bs = (ents 0 pre, 0) := by
      have z : dec (16 - 16) (bs.drop (32 * 16)) = some [] := by rw [Nat.sub_self]; rfl
      rw [e, pd, z, Option.map_some, List.append_nil]
    rw [e2] at hK
    exact hK h2 la ll lc f2 ps
theorem refLowest_spec {a : Option Addr} {l c : Nat} {bs : List UInt8} {h : Heap} {K : Value → Heap → Prop} (B : StrAt h a l bs) (hlc : l ≤ c)
    (hK : ∀ h', Fr No h h' → K (.tuple #[.int .i64 (lowA bs).1, .int .i64 (lowA bs).2]) h') : C.boleref14_Lowest a l c h K := by
  have hb := B.1
  refine boleref14_Lowest.ok (refRead_spec B hlc fun h2 a' l' c' f2 s2 => ⟨_, _, _, _, rfl, ?_⟩)
  have out : ∀ x y, ans bs = ([], y) → lowA bs = (0, y) → x = (ans bs).2 → K (.tuple #[.int .i64 0, .int .i64 x]) h2 := by
    intro x y e1 e2 e3
    have := hK h2 f2
    rw [e2] at this
    rw [e3, e1]; exact this
  by_cases hl : bs.length ≠ 512
  · have e1 : ans bs = ([], 32) := by rw [ans, if_pos hl]
    have e2 : lowA bs = (0, 32) := by rw [lowA, if_pos hl]
    exact ct (by rw [e1]; rfl) (out _ _ e1 e2 rfl)
  cases hd : dec 16 bs with
  | none =>
    have e1 : ans bs = ([], 140) := by rw [ans, if_neg hl, hd]
    have e2 : lowA bs = (0, 140) := by rw [lowA, if_neg hl, hd]
    exact ct (by rw [e1]; rfl) (out _ _ e1 e2 rfl)
  | some hs =>
    have e1 : ans bs = (ents 0 hs, 0) := by rw [ans, if_neg hl, hd]
    have e2 : lowA bs = (low 0 hs, 0) := by rw [lowA, if_neg hl, hd]
    obtain ⟨hsl, _, _⟩ := blk_dec (by omega) hd
    rw [e1] at s2 ⊢
    rw [e2] at hK
    have hll : l' = (ents 0 hs).length := by
      have : ((ents 0 hs).flatMap E.v).length = l' * 3 := s2.1
      rw [flat_length E.v 3 _ (fun x _ => E.len x)] at this
      omega
    refine cf rfl ⟨fun n hh => 0 ≤ n ∧ n ≤ 16 ∧ h2 = hh ∧ ∃ pre rest : List (Nat × Txt), hs = pre ++ rest ∧ pre.length = n.toNat ∧ ∀ x ∈ pre, x.1 ≠ 0, fun n _ => (16 - n).toNat, ⟨by omega, by omega, rfl, [], hs, rfl, rfl, fun x hx => absurd hx (by simp)⟩, ?_⟩
    rintro n _ ⟨n0, n1, rfl, pre, rest, rfl, pl, pz⟩
    obtain ⟨q1, q2, q3⟩ := low_split rest pre pz
    rw [List.length_append] at hsl
    refine cd (fun hn => ?_) fun hn => ?_
    · cases rest with
      | nil => rw [List.length_nil] at hsl; omega
      | cons x r =>
        have eres : x.1 = 0 → low 0 (pre ++ x :: r) = n := fun hx => by rw [q2, low, if_pos hx]; omega
        refine cd (fun hx => ?_) fun hx => ?_
        · have : x.1 = 0 := by
            rcases Nat.eq_zero_or_pos x.1 with h | h
            · exact h
            · rw [ents, if_neg (by omega), List.length_cons] at q1; omega
          rw [eres this] at hK; exact hK h2 f2
        · have hlen : n.toNat < (ents 0 (pre ++ x :: r)).length := by omega
          have hd0 : (ents 0 (pre ++ x :: r)).drop n.toNat = ents n.toNat (x :: r) := by rw [← pl]; exact q3
          have hel : ents n.toNat (x :: r) = (ents 0 (pre ++ x :: r))[n.toNat] :: (ents 0 (pre ++ x :: r)).drop (n.toNat + 1) := by rw [← hd0, List.drop_eq_getElem_cons hlen]
          generalize hee : (ents 0 (pre ++ x :: r))[n.toNat] = ee at hel
          obtain ⟨p, rfl, cc⟩ := s2.get (by omega)
          refine ⟨⟨n0, by omega⟩, os ⟨ee.place, ?_, ?_⟩⟩
          · have c2 := Cells.part cc (n.toNat * 3) 3
            rw [flat_part E.v 3 _ (fun x _ => E.len x) n.toNat hlen, hee] at c2
            exact c2 0 _ rfl
          · rw [ents] at hel
            refine cn (fun hp => ?_) fun hp => ?_
            · have hx0 : x.1 = 0 := by
                rcases Nat.eq_zero_or_pos x.1 with h | h
                · exact h
                · rw [if_neg (by omega)] at hel
                  have := (List.cons.inj hel).1
                  rw [← this] at hp
                  exact absurd (show ((n.toNat : Nat) : Int) = n by omega) hp
              rw [eres hx0] at hK; exact hK h2 f2
            · have hx0 : x.1 ≠ 0 := by
                intro h0
                rw [if_pos h0] at hel
                have := (ents_range r (n.toNat + 1) ee (by rw [hel]; exact List.mem_cons_self ..)).1
                omega
              rw [wrap_i64 (by omega) (by omega)]
              refine ⟨⟨by omega, by omega, rfl, pre ++ [x], r, by rw [List.append_assoc]; rfl, by rw [List.length_append, pl, List.length_singleton]; omega, fun y hy => ?_⟩, by show (16 - (n + 1)).toNat < (16 - n).toNat; omega⟩
              rcases List.mem_append.mp hy with hy | hy
              · exact pz y hy
              · rw [List.mem_singleton.mp hy]; exact hx0
    · have : rest = [] := List.length_eq_zero_iff.mp (by omega)
      subst this
      rw [q2] at hK
      exact hK h2 f2
end Go.Proofs.YtgpkcakanieodaaDoor.Ss
