/-
  LAW InodeBytes.
-/
import Derived.Test.YtnlmieklakolkaaDoorInE
namespace Go.Proofs.YtnlmieklakolkaaDoor.In
open Go Go.Proofs Go.Proofs.YtnlmieklakolkaaDoor.Wx Go.Proofs.YtnlmieklakolkaaDoor.Hp Go.Proofs.YtnlmieklakolkaaDoor.W Go.Proofs.YtnlmieklakolkaaDoor.Su Go.Proofs.YtnlmieklakolkaaDoor.Re Go.Proofs.YtnlmieklakolkaaDoor.Hd Go.Proofs.YtnlmieklakolkaaDoor.Tx

theorem mkStr_app (a b : List UInt8) : mkStr a ++ mkStr b = mkStr (a ++ b) := by
  apply ByteArray.ext
  rw [ByteArray.data_append]
  simp [mkStr]
theorem mod_spec {v n : Int} {h : Heap} {K : Value → Heap → Prop} (h0 : 0 < n) (h1 : n ≤ 4294967296) (hK : K (.int .i64 (v % n)) h) : C.bolelaw11_mod v n h K := by
  refine bolelaw11_mod.ok ?_
  unfold bolelaw11_mod
  rw [if_neg (by omega)]
  have e := Int.tmod_eq_emod (a := v) (b := n)
  have p0 := Int.emod_nonneg v (show n ≠ 0 by omega)
  have p1 := Int.emod_lt_of_pos v h0
  refine cd (fun x => ?_) fun x => ?_
  · have : v.tmod n + n = v % n := by
      rw [e] at x ⊢
      split at x
      · omega
      · rename_i c; rw [if_neg c]; omega
    rw [this, wrap_i64 (by omega) (by omega)]; exact hK
  · have : v.tmod n = v % n := by
      rw [e] at x ⊢
      split at x
      · rename_i c; rw [if_pos c]; omega
      · rename_i c; omega
    rw [this]; exact hK
theorem sl_rng {h : Heap} {ec l c : Nat} {a : Option Addr} {xs : List Value} {F : Nat → Prop} (s : Sl h ec a l c xs F) : Sl h ec a l c xs (fun b => F b ∧ b < h.size) := by
  cases a with
  | none => exact ⟨s.1, s.2⟩
  | some p => exact ⟨s.1, s.2.1, ⟨s.2.2.1, s.lt⟩, s.2.2.2⟩
/-- a copy of bytes behind an empty row -/
theorem copy_from {a : Option Addr} {l : Nat} {bs : List UInt8} {h h2 : Heap} {K : Option Addr → Nat → Nat → Heap → Prop} (n2 : Newly h h2 []) (B : StrAt h a l bs) (hl : l ≤ 140737488355327)
    (hK : ∀ a' c' h', Fr No h h' → Sl h' 1 a' l c' (bs.map bv) (fun b => h.size ≤ b ∧ b < h'.size) → K a' l c' h') :
    ∃ new1 : List Value, List.length new1 = l * 1 ∧ SlCells h2 a new1 ∧ (∀ v ∈ new1, v.oneCell' = true) ∧ AppendP ti5 5 (some ⟨h.size, 0, none⟩) 0 0 l new1 h2 K := by
  have s2 := n2.size
  obtain ⟨s1, s2', s3⟩ := StrAt.src (StrAt.fr n2.fr B (fun _ _ x => x))
  refine ⟨_, s1, s2', s3, ?_⟩
  refine append_own (xs := []) (F := From h.size) (Sl.made n2 rfl (Nat.le_refl _) rfl (Nat.le_refl _) rfl) s1 rfl (by show (0 + l) * 1 ≤ _; omega) (by omega) fun a' c' h' f s => ?_
  rw [Nat.zero_add, List.nil_append] at s
  rw [Nat.zero_add]
  exact hK a' c' h' (n2.fr.trans f fun b hb e => by have : h.size ≤ b := e; omega) ((sl_rng s).mono fun b hb => ⟨by rcases hb.1 with hb | hb; exact hb; omega, hb.2⟩)
theorem decA_length (bs : List UInt8) : (decA bs).1.length = 15 := by
  unfold decA; split
  · exact List.length_replicate
  · split
    · exact getR_length bs
    · exact List.length_replicate
theorem xor_some (n m : Int) : ∃ x : UInt8, Value.int .u8 (bitsI .xor .u8 n m) = bv x := by
  have hr : 0 ≤ bitsI .xor .u8 n m ∧ bitsI .xor .u8 n m < 256 := by
    show 0 ≤ IntKind.wrap .u8 _ ∧ IntKind.wrap .u8 _ < 256
    generalize (BitVec.toNat _ : Int) = z
    show 0 ≤ z % 256 ∧ z % 256 < 256
    omega
  refine ⟨UInt8.ofNat (bitsI .xor .u8 n m).toNat, ?_⟩
  rw [← bv_nat, Int.toNat_of_nonneg hr.1, wrap_u8 hr.1 (by omega)]
/-- the last loop: three rows, each read twice -/
theorem InodeBytes_k3 {h17 h21 : Heap} {K : Value → Heap → Prop} (g : Glo h21) (row : Nat → Option Addr × Nat × Nat) (cont : Nat → List UInt8) (hr : rd h21 h17.size = [.slice (row 0).1 (row 0).2.1 (row 0).2.2, .slice (row 1).1 (row 1).2.1 (row 1).2.2, .slice (row 2).1 (row 2).2.1 (row 2).2.2])
    (hlt : h17.size < h21.size) (hs : ∀ i, i < 3 → StrAt h21 (row i).1 (row i).2.1 (cont i) ∧ (row i).2.1 ≤ (row i).2.2 ∧ (row i).2.1 ≤ 140737488355327) (hK : ∀ h', Fr No h21 h' → K (.bool true) h') : bolelaw11_InodeBytes.k3 h17 h21 K := by
  refine ⟨fun i hh => 0 ≤ i ∧ i ≤ 3 ∧ Fr No h21 hh, fun i _ => ((3 : Nat) - i).toNat, ⟨by decide, by decide, Fr.refl _ _⟩, ?_⟩
  rintro i h22 ⟨i0, i1, f22⟩
  refine cd (fun hi => ?_) fun hi => hK h22 f22
  have hi : i < 3 := hi
  obtain ⟨B, hlc, hl⟩ := hs i.toNat (by omega)
  have C : ∀ {hq : Heap}, Fr No h21 hq → cellOf hq (Addr.add ⟨h17.size, 0, none⟩ i.toNat) = some (.slice (row i.toNat).1 (row i.toNat).2.1 (row i.toNat).2.2) := fun fq => by
    refine rda ((fq.rd hlt fun x => x).trans hr) ?_
    have : i.toNat = 0 ∨ i.toNat = 1 ∨ i.toNat = 2 := by omega
    rcases this with e | e | e <;> rw [e] <;> rfl
  have bi : 0 ≤ i ∧ i < (3 : Int) := ⟨i0, hi⟩
  generalize row i.toNat = q at B hlc hl C
  obtain ⟨a, l, c⟩ := q
  generalize cont i.toNat = bs at B
  simp only at B hlc hl C
  have hbl := B.1
  refine New.intro fun h23 n23 => ⟨bi, _, _, _, C (f22.new n23), copy_from n23 (StrAt.fr f22 B fun _ _ x => x) hl fun a2 c2 h24 f24 s24 => New.intro fun h25 n25 => ⟨[bv 77], rfl, cellsAll n25.rd, bv_one [77], ?_⟩⟩
  have z25 := n25.size
  have z24 := f24.size
  refine append_own (s24.fr n25.fr fun _ _ _ x => x) rfl rfl (by show (l + 1) * 1 ≤ _; omega) (by omega) fun a3 c3 h26 f26 s26 => ?_
  have hc3 := s26.le
  have f26 : Fr No h22 h26 := (f24.new n25).trans f26 fun b hb x => by have := x.1; omega
  have F26 := f22.no f26
  have B26 : StrAt h26 a3 (l + 1) (bs ++ [77]) := by
    have s26 : Sl h26 1 a3 (l + 1) c3 (bs.map bv ++ [77].map bv) _ := s26
    rw [← List.map_append] at s26; exact s26.str
  refine ⟨bi, _, _, _, C F26, rDecode_spec (StrAt.fr F26 B fun _ _ x => x) hlc fun h27 f27 => ⟨_, _, rfl, NewRow.intro (by rw [ints_length, decA_length]) (ints_one _) rfl fun h29 n29 => ?_⟩⟩
  have z27 := f27.size
  have z29 := n29.size
  have f29 := f27.new n29
  have B29 : StrAt h29 a3 (l : Int).toNat bs := by
    have := StrAt.take (StrAt.fr f29 B26 fun _ _ x => x) (n := l) (by omega)
    rw [List.take_left' hbl] at this; exact this
  refine ⟨bi, _, _, _, C (F26.no f29), ⟨by omega, by omega⟩, Decode_spec (g.no (F26.no f29)) B29 (by omega) fun h30 f30 => ⟨_, _, rfl, NewRow.intro (by rw [ints_length, decA_length]) (ints_one _) rfl fun h32 n32 => ?_⟩⟩
  have z30 := f30.size
  have z32 := n32.size
  have f32 := f30.new n32
  have r32 : rd h32 h27.size = ints (decA bs).1 := (f32.rd (by omega) fun x => x).trans n29.rd
  refine ⟨_, by rw [ints_length, decA_length], cellsAll n32.rd, _, by rw [ints_length, decA_length], cellsAll r32, pairs15 (decA_length _) (decA_length _), ?_⟩
  rw [ints_eq, decide_eq_true rfl]
  refine cf rfl (cn (fun x => absurd rfl x) fun _ => ?_)
  have F32 := (F26.no f29).no f32
  refine ⟨_, StrAt.fr (f29.no f32) B26 fun _ _ x => x, bi, _, _, _, C F32, _, StrAt.fr F32 B fun _ _ x => x, ?_, ?_⟩
  · have e1 : (mkStr bs).size = l := by rw [← hbl]; simp [mkStr, ByteArray.size]
    have e2 : (mkStr [77]).size = 1 := rfl
    rw [e1, e2]; omega
  · rw [mkStr_app, toList_mkStr, beq_self_eq_true, wrap_i64 (by omega) (by omega)]
    exact cf rfl ⟨⟨by omega, by omega, F32⟩, falls (m := 3) hi⟩
theorem put_one (xs : List Value) (j : Nat) (v : Value) : put xs j [v] = xs.set j v := rfl
theorem InodeBytes_k2 {a wa : Option Addr} {l wl : Nat} {bs want : List UInt8} {t0 t1 : Int} {h2 h11 : Heap} {K : Value → Heap → Prop} (g : Glo h11) (B : StrAt h11 a l bs) (hl : l ≤ 140737488355327) (W : StrAt h11 wa wl want) (hwl : wl ≤ 64)
    (rt : rd h11 h2.size = ints [t0, t1]) (hK : ∀ h', Fr No h11 h' → K (.bool true) h') : bolelaw11_InodeBytes.k2 a l h2 wa wl h11 K := by
  have gl := g.lt
  have ht : h2.size < h11.size := rd_lt (o := 0) (v := .int .i64 t0) (by rw [rt]; rfl)
  refine New.intro fun h12 n12 => copy_from n12 B hl fun a5 c5 h13 f13 s5 => New.intro fun h14 n14 => copy_from n14 (StrAt.fr f13 W fun _ _ x => x) (by omega) fun a6 c6 h15 f15 s6 => New.intro fun h16 n16 => copy_from n16 (StrAt.fr (f13.no f15) W fun _ _ x => x) (by omega) fun a7 c7 h17 f17 s7 => New.intro fun h18 n18 => ?_
  have z13 := f13.size
  have z15 := f15.size
  have z17 := f17.size
  have z18 := n18.size
  have f18 : Fr No h17 h18 := n18.fr
  have F18 : Fr No h11 h18 := ((f13.no f15).no f17).no f18
  have B5 := StrAt.fr ((f15.no f17).no f18) s5.str fun _ _ x => x
  have B6 := StrAt.fr (f17.no f18) s6.str fun _ _ x => x
  have s7' := s7.fr f18 fun _ _ _ x => x
  have e0 : ∀ (cs : List UInt8) (hq : Heap), StrAt hq a7 wl cs → StrAt hq a5 l bs → StrAt hq a6 wl want → ∀ i, i < 3 → StrAt hq ((fun i => if i = 0 then (a5, l, c5) else if i = 1 then (a6, wl, c6) else (a7, wl, c7)) i).1 ((fun i => if i = 0 then (a5, l, c5) else if i = 1 then (a6, wl, c6) else (a7, wl, c7)) i).2.1 ((fun i => if i = 0 then bs else if i = 1 then want else cs) i) ∧
      ((fun i => if i = 0 then (a5, l, c5) else if i = 1 then (a6, wl, c6) else (a7, wl, c7)) i).2.1 ≤ ((fun i => if i = 0 then (a5, l, c5) else if i = 1 then (a6, wl, c6) else (a7, wl, c7)) i).2.2 ∧ ((fun i => if i = 0 then (a5, l, c5) else if i = 1 then (a6, wl, c6) else (a7, wl, c7)) i).2.1 ≤ 140737488355327 := by
    intro cs hq q7 q5 q6 i hi
    match i, hi with
    | 0, _ => exact ⟨q5, s5.le, hl⟩
    | 1, _ => exact ⟨q6, s6.le, by show wl ≤ _; omega⟩
    | 2, _ => exact ⟨q7, s7.le, by show wl ≤ _; omega⟩
  refine ce (fun ew => ?_) fun ew => ?_
  · have ew : wl = 64 := by omega
    subst ew
    have hm0 := Int.emod_nonneg t0 (show (64 : Int) ≠ 0 by decide)
    have hm1 := Int.emod_lt_of_pos t0 (show (0 : Int) < 64 by decide)
    have rt18 : rd h18 h2.size = ints [t0, t1] := (F18.rd ht fun x => x).trans rt
    refine ⟨by decide, _, rda rt18 rfl, mod_spec (by decide) (by decide) ⟨_, rfl, by decide, _, _, _, rda n18.rd rfl, by decide, _, _, _, rda n18.rd rfl, ⟨hm0, hm1⟩, ?_⟩⟩
    generalize t0 % 64 = m at hm0 hm1
    obtain ⟨p, rfl⟩ : ∃ p, a7 = some p := by
      obtain ⟨p, e, _⟩ := s7.get (by decide); exact ⟨p, e⟩
    have ep := s7.mk
    obtain ⟨b7, o7, sp⟩ := p
    simp only at ep
    cases ep
    have hb7 := sl_F s7
    simp only at hb7
    have lw : want.length = 64 := W.1
    have hm : m.toNat < want.length := by omega
    have cm : cellOf h18 (Addr.add ⟨b7, o7, none⟩ m.toNat) = some (bv want[m.toNat]) := by
      obtain ⟨p, e, c⟩ := s7'.get (by decide)
      cases e
      exact Cells.cell c (by rw [List.getElem?_map, List.getElem?_eq_getElem hm]; rfl)
    obtain ⟨x, hx⟩ := xor_some ((want[m.toNat]).toNat : Int) (IntKind.wrap .u8 t1)
    obtain ⟨w7, l7⟩ := s7'.wr
    refine os ⟨_, cm, by decide, _, rda rt18 rfl, ⟨hm0, hm1⟩, os ?_⟩
    rw [show (Value.int .u8 (bitsI .xor .u8 ((want[m.toNat]).toNat : Int) (IntKind.wrap .u8 t1))) = bv x from hx]
    refine Put.add w7 (by omega) fun h20 d20 => ?_
    have B20 : StrAt h20 (some ⟨b7, o7, none⟩) 64 (want.set m.toNat x) := by
      have := s7'.putAt (new := [bv x]) (j := m.toNat) (by show m.toNat + 1 ≤ 64 * 1; omega) d20
      rw [put_one, ← List.map_set] at this; exact this.str
    have ne5 : ∀ p, a5 = some p → ¬ p.block = b7 := fun p e => by
      subst e; have := sl_F s5; omega
    have ne6 : ∀ p, a6 = some p → ¬ p.block = b7 := fun p e => by
      subst e; have := sl_F s6; omega
    have z20 := d20.size
    refine InodeBytes_k3 (((g.no F18).fr d20.fr fun b hb e => by omega)) (fun i => if i = 0 then (a5, l, c5) else if i = 1 then (a6, 64, c6) else (some ⟨b7, o7, none⟩, 64, c7)) (fun i => if i = 0 then bs else if i = 1 then want else want.set m.toNat x) ((d20.at_ (by omega) (by omega)).trans n18.rd) (by omega)
      (e0 _ _ B20 (StrAt.fr d20.fr B5 ne5) (StrAt.fr d20.fr B6 ne6)) fun h' f' => hK h' ((F18.did d20 fun hl => by omega).no f')
  · exact InodeBytes_k3 (g.no F18) (fun i => if i = 0 then (a5, l, c5) else if i = 1 then (a6, wl, c6) else (a7, wl, c7)) (fun i => if i = 0 then bs else if i = 1 then want else want) n18.rd (by omega) (e0 _ _ s7'.str B5 B6) fun h' f' => hK h' (F18.no f')
theorem InodeBytes_k1 {a wa oa ta : Option Addr} {l w tc n : Nat} {bs want xs : List UInt8} {t0 t1 : Int} {h2 h7 : Heap} {K : Value → Heap → Prop} (g : Glo h7) (hn2 : 1 ≤ n) (hn : n ≤ h7.size) (hB : ∀ h', Fr (fun b => n ≤ b) h7 h' → StrAt h' a l bs) (hl : l ≤ 140737488355327)
    (W : StrAt h7 wa w want) (hW : ∀ p, wa = some p → p.block < n) (O : StrAt h7 oa w want) (hO : ∀ p, oa = some p → p.block < n) (hw : w ≤ 64) (T : Sl h7 1 ta w tc (xs.map bv) (fun b => n ≤ b))
    (rt : rd h7 h2.size = ints [t0, t1]) (ht : h2.size < n) (hK : ∀ h', Fr (fun b => n ≤ b) h7 h' → K (.bool true) h') : bolelaw11_InodeBytes.k1 a l h2 wa w oa w h7 ta w tc K := by
  refine ⟨fun i hh => 0 ≤ i ∧ i ≤ w ∧ Fr (fun b => n ≤ b) h7 hh ∧ ∃ ys, Sl hh 1 ta w tc ys (fun b => n ≤ b), fun i _ => ((w : Nat) - i).toNat, ⟨by decide, by omega, Fr.refl _ _, _, T⟩, ?_⟩
  rintro i h8 ⟨i0, i1, f8, ys, T8⟩
  have z8 := f8.size
  refine cd (fun hi => ?_) fun hi => ?_
  · have hi : i < w := hi
    obtain ⟨p, rfl⟩ : ∃ p, ta = some p := by
      obtain ⟨p, e, _⟩ := T8.get (by omega); exact ⟨p, e⟩
    have ep := T8.mk
    obtain ⟨b7, o7, sp⟩ := p
    simp only at ep
    cases ep
    obtain ⟨w7, l7⟩ := T8.wr
    have hb := sl_F T8
    refine ⟨⟨i0, hi⟩, os (Put.add w7 (by omega) fun h9 d9 => ?_)⟩
    rw [wrap_i64 (by omega) (by omega)]
    exact ⟨⟨by omega, by omega, f8.did d9 fun _ => hb, _, T8.putAt (new := [.int .u8 99]) (j := i.toNat) (by show i.toNat + 1 ≤ w * 1; omega) d9⟩, falls (m := w) hi⟩
  · refine New.intro fun h10 n10 => ⟨[bv 99], rfl, cellsAll n10.rd, bv_one [99], append_own (T8.fr n10.fr fun _ _ _ x => x) rfl rfl (by show (w + 1) * 1 ≤ _; omega) (by omega) fun a4 c4 h11 f11 s11 => ?_⟩
    have F11 : Fr (fun b => n ≤ b) h7 h11 := ((f8.no n10.fr).trans f11 fun b _ x => x)
    have k : ∀ {q : Option Addr}, (∀ p, q = some p → p.block < n) → ∀ p, q = some p → ¬ n ≤ p.block := fun hq p e => by have := hq p e; omega
    refine ⟨_, StrAt.fr F11 O (k hO), _, StrAt.fr F11 W (k hW), ?_⟩
    rw [str_eq, decide_eq_true rfl, wrap_i64 (by omega) (by omega)]
    refine cf rfl (cn (fun x => absurd (by omega) x) fun _ => ?_)
    exact InodeBytes_k2 (g.fr F11 fun b hb e => by omega) (hB h11 F11) hl (StrAt.fr F11 W (k hW)) hw ((F11.rd (by omega) (by omega)).trans rt) fun h' f' => hK h' (F11.no f')
theorem InodeBytes_spec {a : Option Addr} {l c : Nat} {bs : List UInt8} {R : List Int} {t0 t1 : Int} {h : Heap} {K : Value → Heap → Prop} (g : Glo h) (hR : R.length = 15) (B : StrAt h a l bs) (hl : l ≤ 140737488355327)
    (hK : ∀ h', Fr No h h' → K (.bool true) h') : C.bolelaw11_InodeBytes (ints R) a l c (ints [t0, t1]) h K := by
  refine bolelaw11_InodeBytes.ok (New.intro fun h2 n2 => New.intro fun h3 n3 => fixed_spec (g.no (n2.fr.new n3)) fun h4 f4 => ⟨_, rfl, cnot (ct rfl ?_)⟩)
  have gl := g.lt
  have z2 := n2.size
  have z3 := n3.size
  have z4 := f4.size
  have F4 := (n2.fr.new n3).no f4
  have rx : ∀ {hq : Heap}, Fr No h4 hq → rd hq h.size = ints R := fun fq => (fq.rd (by omega) fun x => x).trans ((f4.rd (by omega) fun x => x).trans ((n3.at_ (by omega)).trans n2.rd))
  have rt : ∀ {hq : Heap}, Fr No h4 hq → rd hq h2.size = ints [t0, t1] := fun fq => (fq.rd (by omega) fun x => x).trans ((f4.rd (by omega) fun x => x).trans n3.rd)
  have hB : ∀ p, a = some p → 0 < l → p.block < h.size := fun p e h0 => by
    subst e
    have := Cells.cell (i := 0) B.2 (v := bv (bs[0]'(by have := B.1; omega))) (by rw [List.getElem?_map, List.getElem?_eq_getElem (by have := B.1; omega)]; rfl)
    obtain ⟨_, e2⟩ := cellOf_some this
    rw [Addr.add_zero] at e2
    exact rd_lt e2
  have hlR : (ints R).length = 15 := by rw [ints_length, hR]
  refine ⟨ints R, hlR, cellsAll (rx (Fr.refl _ _)), ?_⟩
  -- an empty row of bytes has no block of its own: take it as none
  have fin : ∀ {wa oa ta : Option Addr} {w tc n : Nat} {want xs : List UInt8} {h7 : Heap}, Fr No h4 h7 → h4.size ≤ n → n ≤ h7.size → StrAt h7 wa w want → (∀ p, wa = some p → p.block < n) → StrAt h7 oa w want → (∀ p, oa = some p → p.block < n) → w ≤ 64 → Sl h7 1 ta w tc (xs.map bv) (fun b => n ≤ b) →
      bolelaw11_InodeBytes.k1 a l h2 wa w oa w h7 ta w tc K := by
    intro wa oa ta w tc n want xs h7 f7 hn hn7 W hW O hO hw T
    refine InodeBytes_k1 (bs := bs) (g.no (F4.no f7)) (by omega) hn7 (fun h' f' => ?_) hl W hW O hO hw T (rt f7) (by omega) fun h' f' => hK h' ((F4.no f7).trans f' fun b hb x => by have x : n ≤ b := x; omega)
    by_cases h0 : 0 < l
    · exact StrAt.fr f' (StrAt.fr (F4.no f7) B fun _ _ x => x) fun p e x => by have := hB p e h0; have x : n ≤ p.block := x; omega
    · have e : l = 0 := by omega
      have e2 : bs = [] := List.eq_nil_of_length_eq_zero (by rw [B.1, e])
      rw [e, e2]; exact StrAt.nil _ _
  cases hm : mayR R with
  | false =>
    refine rEncode_spec hR (fun _ h5 f5 => ?_) fun x => by rw [hm] at x; cases x
    refine ⟨_, _, _, _, rfl, ints R, hlR, cellsAll (rx f5), Encode_spec (g.no (F4.no f5)) hR (fun _ h6 f6 => ?_) fun x => by rw [hm] at x; cases x⟩
    have f6' := f5.no f6
    refine ⟨_, _, _, _, rfl, ints R, hlR, cellsAll (rx f6'), Encode_spec (g.no (F4.no f6')) hR (fun _ h7 f7 => ?_) fun x => by rw [hm] at x; cases x⟩
    have F7 := f6'.no f7
    refine ⟨_, _, _, _, rfl, cn (fun x => absurd rfl x) fun _ => cn (fun x => absurd rfl x) fun _ => ⟨[], StrAt.nil _ _, [], StrAt.nil _ _, ?_⟩⟩
    rw [str_eq, decide_eq_true rfl]
    refine cf rfl ⟨[], StrAt.nil _ _, [], StrAt.nil _ _, ?_⟩
    rw [str_eq, decide_eq_true rfl]
    exact cf rfl (fin (xs := []) F7 F7.size (Nat.le_refl _) (StrAt.nil _ _) (fun p e => by cases e) (StrAt.nil _ _) (fun p e => by cases e) (by decide) (Sl.nil _ _ _))
  | true =>
    refine rEncode_spec hR (fun x => by rw [hm] at x; cases x) fun _ a5 c5 h5 f5 s5 => ?_
    have s5 := sl_rng s5
    refine ⟨_, _, _, _, rfl, ints R, hlR, cellsAll (rx f5), Encode_spec (g.no (F4.no f5)) hR (fun x => by rw [hm] at x; cases x) fun _ b6 h6 f6 hb6 s6 => ?_⟩
    have f6' := f5.no f6
    have lb6 : b6 < h6.size := s6.lt
    refine ⟨_, _, _, _, rfl, ints R, hlR, cellsAll (rx f6'), Encode_spec (g.no (F4.no f6')) hR (fun x => by rw [hm] at x; cases x) fun _ b7 h7 f7 hb7 s7 => ?_⟩
    have F7 := f6'.no f7
    have W7 := StrAt.fr (f6.no f7) s5.str fun _ _ x => x
    have O7 := StrAt.fr f7 s6.str fun _ _ x => x
    have z5 := f5.size
    have z6 := f6.size
    have z7 := f7.size
    refine ⟨_, _, _, _, rfl, cn (fun x => absurd rfl x) fun _ => cn (fun x => absurd rfl x) fun _ => ⟨_, O7, _, W7, ?_⟩⟩
    rw [str_eq, decide_eq_true rfl]
    refine cf rfl ⟨_, s7.str, _, W7, ?_⟩
    rw [str_eq, decide_eq_true rfl]
    refine cf rfl (fin (n := h6.size) F7 (by omega) (by omega) W7 (fun p e => ?_) O7 (fun p e => by cases e; exact lb6) (Nat.le_refl _) (s7.mono fun b e => by subst e; exact hb7))
    subst e
    have := (sl_F s5).2
    omega
end Go.Proofs.YtnlmieklakolkaaDoor.In
