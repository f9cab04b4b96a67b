/-
  PACKAGE slots: Put and Clear; what the laws of bolelaw14 call.
-/
import Derived.Test.YtgpkcakanieodaaDoorSlA
namespace Go.Proofs.YtgpkcakanieodaaDoor.Ss
open Go Go.Proofs Go.Proofs.YtgpkcakanieodaaDoor.Wx Go.Proofs.YtgpkcakanieodaaDoor.Hp Go.Proofs.YtgpkcakanieodaaDoor.W Go.Proofs.YtgpkcakanieodaaDoor.Re Go.Proofs.YtgpkcakanieodaaDoor.Sk Go.Proofs.YtgpkcakanieodaaDoor.Ch

/-- what a row holds, written over itself -/
theorem put_self {h : Heap} {b o l c : Nat} {xs : List Value} {F : Nat → Prop} (s : Sl h 1 (some ⟨b, o, none⟩) l c xs F) : put (rd h b) o xs = rd h b := by
  obtain ⟨w1, w2⟩ := s.wr
  obtain ⟨h1, a1, a2, a3, a4, a5, a6⟩ := s
  simp only at a5 a6
  have e := put_eq xs (rd h b) o (by omega)
  rw [e]
  conv => rhs; rw [← List.take_append_drop o (rd h b), ← List.take_append_drop xs.length ((rd h b).drop o), a5, List.drop_drop]
  rw [List.append_assoc]
theorem put_sub {h : Heap} {b o l c j : Nat} {bs ys : List UInt8} {F : Nat → Prop} (s : Sl h 1 (some ⟨b, o, none⟩) l c (bs.map bv) F) (hj : j + ys.length ≤ bs.length) :
    put (rd h b) (o + j) (ys.map bv) = put (rd h b) o ((putU bs j ys).map bv) := by
  obtain ⟨w1, w2⟩ := s.wr
  have hl := s.1
  rw [List.length_map] at hl
  have e0 := put_self s
  have lp := putU_length hj
  apply List.ext_getElem?
  intro i
  rw [put_get _ _ _ _ (by rw [List.length_map]; omega), put_get _ _ _ _ (by rw [List.length_map]; omega), List.length_map, List.length_map, lp, ← putU_put hj]
  by_cases hi : o ≤ i ∧ i < o + bs.length
  · rw [if_pos hi, put_get _ _ _ _ (by rw [List.length_map, List.length_map]; exact hj), List.length_map]
    by_cases h2 : o + j ≤ i ∧ i < o + j + ys.length
    · rw [if_pos h2, if_pos (by omega)]
      congr 1; omega
    · rw [if_neg h2, if_neg (by omega)]
      have := congrArg (·[i]?) e0
      simp only [put_get _ _ _ _ (show o + (bs.map bv).length ≤ (rd h b).length by rw [List.length_map]; omega), List.length_map, if_pos hi] at this
      exact this.symm
  · rw [if_neg hi, if_neg (by omega)]
theorem Sl.all {h h' : Heap} {b o l c : Nat} {bs bs' : List UInt8} {F : Nat → Prop} (s : Sl h 1 (some ⟨b, o, none⟩) l c (bs.map bv) F) (hl : bs'.length = bs.length) (d : Wrote b h h' (put (rd h b) o (bs'.map bv))) :
    Sl h' 1 (some ⟨b, o, none⟩) l c (bs'.map bv) F := by
  have e := s.1
  rw [List.length_map] at e
  have := Sl.wrote (j := 0) (new := bs'.map bv) s (by rw [List.length_map]; omega) d
  rw [put_all _ _ (by rw [List.length_map, List.length_map, hl])] at this
  exact this
theorem wrote_id {h h' : Heap} {b o l c : Nat} {bs : List UInt8} {F : Nat → Prop} (s : Sl h 1 (some ⟨b, o, none⟩) l c (bs.map bv) F) (f : Fr No h h') : Wrote b h h' (put (rd h b) o (bs.map bv)) :=
  ⟨f.mono fun _ _ x => x.elim, f.own s.wr.1.lt (fun x => x) s.wr.1, by rw [put_self s]; exact f.rd s.wr.1.lt fun x => x⟩
theorem Put_spec {b o l c : Nat} {bs : List UInt8} {e : E} {F : Nat → Prop} {h : Heap} {K : Value → Heap → Prop} (g : Glo h) (hb1 : 1 ≤ b) (s : Sl h 1 (some ⟨b, o, none⟩) l c (bs.map bv) F)
    (hK : ∀ h', Wrote b h h' (put (rd h b) o ((putA bs e).2.map bv)) → K (.int .i64 (putA bs e).1) h') : C.slots_Put (some ⟨b, o, none⟩) l c (E.v e) h K := by
  have hbl := s.1
  rw [List.length_map, Nat.mul_one] at hbl
  obtain ⟨w, wl⟩ := s.wr
  have hbs := w.lt
  refine slots_Put.ok (New.intro fun h2 n2 => ?_)
  have r2 := n2.rd
  have o2 := n2.own
  have f2 := n2.fr
  have hs2 := n2.size
  have no : ∀ h' m, Fr No h h' → putA bs e = (m, bs) → K (.int .i64 m) h' := by
    intro h' m f ee
    have := hK h'
    rw [ee] at this
    exact this (wrote_id s f)
  refine cn (fun hl => no h2 32 f2 (by rw [putA, if_pos (by omega)])) fun hl => ?_
  have bad : ∀ h', Fr No h h' → putOk e = false → K (.int .i64 140) h' := fun h' f ee => no h' 140 f (by rw [putA, if_neg (by omega), ee]; rfl)
  refine ⟨e.place, rdc r2 rfl, isPlace_spec ⟨_, rfl, cnot ?_⟩⟩
  cases hp : (decide (0 ≤ e.place) && decide (e.place < 16)) with
  | false => exact bad h2 f2 (by rw [putOk, hp]; rfl)
  | true =>
    refine ct rfl ⟨e.inode, rdc r2 rfl, cd (fun x => bad h2 f2 (by rw [putOk, hp, decide_eq_false (by omega)]; rfl)) fun x1 => ⟨e.inode, rdc r2 rfl, cd (fun x => bad h2 f2 (by rw [putOk, hp, decide_eq_true (by omega), decide_eq_false (by omega)]; rfl)) fun x2 => ⟨mkStr e.name, rdc r2 rfl, Name_spec fun h4 f4 => ⟨_, rfl, cnot ?_⟩⟩⟩⟩
    have f24 := f2.no f4
    cases hn : nameOk e.name with
    | false => exact bad h4 f24 (by rw [putOk, hn, Bool.and_false])
    | true =>
      have ok : putOk e = true := by rw [putOk, hp, decide_eq_true (by omega), decide_eq_true (by omega), hn]; rfl
      obtain ⟨p0, p1, i0, i1, _, gd⟩ := putOk_good ok
      have nm := nameOk_iff.mp hn
      have npos := nm.pos
      have nle := nm.le
      have fl : (form e.inode.toNat e.name).length = 32 := form_length gd
      have ea : putA bs e = (0, putU bs (32 * e.place.toNat) (form e.inode.toNat e.name)) := by rw [putA, if_neg (by omega), if_pos ok]
      rw [ea] at hK
      have r4 : rd h4 h.size = E.v e := (f4.rd o2.lt fun x => x).trans r2
      have s4 := s.fr f24 fun _ _ _ x => x
      refine ct rfl ⟨e.place, rdc r4 rfl, cell_spec s4.str (by omega) s4.le p0 p1 fun _ => ⟨_, _, _, rfl, e.inode, rdc r4 rfl, ?_⟩⟩
      rw [Option.map_some, add_mk]
      have wu : ∀ n : Int, 0 ≤ n → n ≤ 4294967295 → IntKind.wrap .u64 n = ((n.toNat : Nat) : Int) := fun n a b => by
        show n % 18446744073709551616 = _
        omega
      rw [wu _ (by omega) i1]
      obtain ⟨w4, wl4⟩ := s4.wr
      have x4 : rd h4 b = rd h b := f24.rd hbs fun x => x
      refine Put_did (g.no f24) w4 (by omega) (by omega) (by omega) (by omega) (by omega) (by show e.inode.toNat < 256 ^ 4; omega) fun h7 d7 => ⟨_, rfl, ?_⟩
      have hne : h.size ≠ b := by omega
      have lt4 : h.size < h4.size := by have := f4.size; omega
      have r7 : rd h7 h.size = E.v e := (d7.fr.rd lt4 hne).trans r4
      have g7 : Glo h7 := (g.no f24).fr d7.fr fun x hx => by omega
      have l7 : (rd h7 b).length = (rd h b).length := by rw [d7.rd, put_length, x4]
      refine ⟨mkStr e.name, rdc r7 rfl, ?_⟩
      have hsz : (mkStr e.name).size = e.name.length := rfl
      rw [hsz, wu _ (by omega) (by omega), Int.toNat_natCast]
      refine Put_did g7 d7.own (by omega) (by omega) (by omega) (by omega) (by omega) (by show e.name.length < 256 ^ 1; omega) fun h8 d8 => ⟨_, rfl, ?_⟩
      have lt7 : h.size < h7.size := by have := d7.fr.size; omega
      have r8 : rd h8 h.size = E.v e := (d8.fr.rd lt7 hne).trans r7
      have l8 : (rd h8 b).length = (rd h b).length := by rw [d8.rd, put_length, l7]
      refine ⟨mkStr e.name, rdc r8 rfl, PutText_did d8.own (by omega) (by omega) (by omega) (by omega) (by omega) (by omega) (by omega) (fun x hx => (nm.all x hx).2) fun h9 d9 => ⟨_, rfl, ?_⟩⟩
      refine hK h9 ⟨?_, d9.own, ?_⟩
      · exact (((f24.mono fun _ _ x => x.elim).trans d7.fr fun _ _ x => x).trans d8.fr fun _ _ x => x).trans d9.fr fun _ _ x => x
      · rw [d9.rd, d8.rd, d7.rd, x4, ← put_sub s (by omega)]
        have l4 := leB_length 4 e.inode.toNat
        have ef : form e.inode.toNat e.name = leB 4 e.inode.toNat ++ (leB 1 e.name.length ++ (e.name ++ List.replicate (27 - e.name.length) 0)) := by
          rw [form, if_neg (by omega)]
          congr 1
          rw [show leB 1 e.name.length = [UInt8.ofNat e.name.length] by rw [leB_succ]; rfl]
          rfl
        have em : (form e.inode.toNat e.name).map bv = (leB 4 e.inode.toNat).map bv ++ ((leB 1 e.name.length).map bv ++ (e.name ++ List.replicate (27 - e.name.length) 0).map bv) := by
          rw [ef, List.map_append, List.map_append]
        rw [em]
        have key : ∀ (X A B C : List Value) (o : Nat), A.length = 4 → B.length = 1 → put (put (put X (o + 0) A) (o + 4) B) (o + 5) C = put X o (A ++ (B ++ C)) := by
          intro X A B C o h1 h2
          rw [put_app, put_app, h1, h2]
          rfl
        exact key _ _ _ _ _ (by rw [List.length_map]; exact l4) (by rw [List.length_map]; exact leB_length 1 _)
theorem ClearP_did {b o l : Nat} {h : Heap} {K : Heap → Prop} (w : Own h b) (hw : o + l ≤ (rd h b).length) (hK : ∀ h', Wrote b h h' (put (rd h b) o ((List.replicate l (0 : UInt8)).map bv)) → K h') : ClearP ti5 (some ⟨b, o, none⟩) l h K := by
  have erep : ∀ m, repCells [Value.int .u8 0] m = (List.replicate m (0 : UInt8)).map bv := fun m => by
    induction m with
    | zero => rfl
    | succ m ih => rw [List.replicate_succ, List.map_cons, ← ih]; rfl
  refine ⟨trivial, ?_, ?_⟩
  · rw [show (ti5).cells = 1 from rfl, Nat.mul_one]
    simp only [WrS, Addr.add_zero]
    exact wrN_rd w (by omega)
  · show K (setS h _ 0 (repCells [Value.int .u8 0] l))
    rw [erep]
    simp only [setS, Addr.add_zero]
    refine hK _ ⟨Fr.setRow (F := fun x => x = b) (Or.inl rfl) (Fr.refl _ _), own_setRow w, ?_⟩
    rw [rd_setRow_at, Nat.add_zero]
theorem Clear_spec {b o l c : Nat} {bs : List UInt8} {k : Int} {F : Nat → Prop} {h : Heap} {K : Value → Heap → Prop} (s : Sl h 1 (some ⟨b, o, none⟩) l c (bs.map bv) F)
    (hK : ∀ h', Wrote b h h' (put (rd h b) o ((clrA bs k).2.map bv)) → K (.int .i64 (clrA bs k).1) h') : C.slots_Clear (some ⟨b, o, none⟩) l c k h K := by
  have hbl := s.1
  rw [List.length_map, Nat.mul_one] at hbl
  obtain ⟨w, wl⟩ := s.wr
  have no : ∀ m, clrA bs k = (m, bs) → K (.int .i64 m) h := by
    intro m ee
    have := hK h
    rw [ee] at this
    exact this (wrote_id s (Fr.refl _ _))
  refine slots_Clear.ok (cn (fun hl => no 32 (by rw [clrA, if_pos (by omega)])) fun hl => isPlace_spec ⟨_, rfl, cnot ?_⟩)
  cases hp : (decide (0 ≤ k) && decide (k < 16)) with
  | false =>
    have : ¬ (0 ≤ k ∧ k < 16) := by
      rintro ⟨a, b⟩
      rw [decide_eq_true a, decide_eq_true b] at hp; cases hp
    exact no 140 (by rw [clrA, if_neg (by omega), if_neg this])
  | true =>
    rw [Bool.and_eq_true, decide_eq_true_eq, decide_eq_true_eq] at hp
    have ea : clrA bs k = (0, putU bs (32 * k.toNat) (List.replicate 32 0)) := by rw [clrA, if_neg (by omega), if_pos hp]
    rw [ea] at hK
    refine ct rfl (cell_spec s.str (by omega) s.le hp.1 hp.2 fun _ => ⟨_, _, _, rfl, ?_⟩)
    rw [Option.map_some, add_mk]
    refine ClearP_did w (by omega) fun h4 d4 => hK h4 ⟨d4.fr, d4.own, ?_⟩
    rw [d4.rd, put_sub s (by rw [List.length_replicate]; omega)]
theorem mod_spec {v n : Int} {h : Heap} {K : Value → Heap → Prop} (h0 : 0 < n) (h1 : n ≤ 4294967296) (hK : K (.int .i64 (v % n)) h) : C.bolelaw14_mod v n h K := by
  refine bolelaw14_mod.ok ?_
  unfold bolelaw14_mod
  rw [if_neg (by omega)]
  have e := Int.tmod_eq_emod (a := v) (b := n)
  have p0 := Int.emod_nonneg v (show n ≠ 0 by omega)
  have p1 := Int.emod_lt_of_pos v h0
  refine cd (fun x => ?_) fun x => ?_
  · have : v.tmod n + n = v % n := by
      rw [e] at x ⊢
      split at x
      · omega
      · rename_i c; rw [if_neg c]; omega
    rw [this, wrap_i64 (by omega) (by omega)]; exact hK
  · have : v.tmod n = v % n := by
      rw [e] at x ⊢
      split at x
      · rename_i c; rw [if_pos c]; omega
      · rename_i c; omega
    rw [this]; exact hK
theorem byte_get {h : Heap} {a : Option Addr} {l : Nat} {bs : List UInt8} (B : StrAt h a l bs) {i : Nat} (hi : i < bs.length) : ∃ p, a = some p ∧ cellOf h (p.add i) = some (bv bs[i]) := by
  obtain ⟨_, B2⟩ := B
  cases a with
  | none => have B2 : bs.map bv = [] := B2; have := List.map_eq_nil_iff.mp B2; rw [this] at hi; exact absurd hi (by simp)
  | some p => exact ⟨p, rfl, B2 i (bv bs[i]) (by rw [List.getElem?_map, List.getElem?_eq_getElem hi]; rfl)⟩
theorem sameBytes_spec {a b : Option Addr} {l m c c2 : Nat} {xs ys : List UInt8} {h : Heap} {K : Value → Heap → Prop} (A : StrAt h a l xs) (B : StrAt h b m ys) (hl : l ≤ 140737488355328) (hK : K (.bool (decide (xs = ys))) h) : C.bolelaw14_sameBytes a l c b m c2 h K := by
  have ha := A.1
  have hb := B.1
  refine bolelaw14_sameBytes.ok (cn (fun hne => ?_) fun heq => ?_)
  · have : xs ≠ ys := by rintro rfl; omega
    rw [decide_eq_false this] at hK; exact hK
  · refine ⟨fun i hh => 0 ≤ i ∧ i ≤ l ∧ h = hh ∧ xs.take i.toNat = ys.take i.toNat, fun i _ => ((l : Int) - i).toNat, ⟨by omega, by omega, rfl, rfl⟩, ?_⟩
    rintro i _ ⟨i0, i1, rfl, e⟩
    refine cd (fun hi => ?_) fun hi => ?_
    · have hx : i.toNat < xs.length := by omega
      have hy : i.toNat < ys.length := by omega
      obtain ⟨p, rfl, ca⟩ := byte_get A hx
      obtain ⟨q, rfl, cb⟩ := byte_get B hy
      refine ⟨⟨i0, hi⟩, os ⟨_, ca, ⟨i0, by omega⟩, os ⟨_, cb, cn (fun hne => ?_) fun heq2 => ?_⟩⟩⟩
      · have : xs ≠ ys := by rintro rfl; exact hne rfl
        rw [decide_eq_false this] at hK; exact hK
      · rw [wrap_i64 (by omega) (by omega)]
        refine ⟨⟨by omega, by omega, rfl, ?_⟩, falls hi⟩
        have : xs[i.toNat] = ys[i.toNat] := UInt8.toNat_inj.mp (by exact_mod_cast heq2)
        rw [show (i + 1).toNat = i.toNat + 1 by omega, List.take_succ_eq_append_getElem hx, List.take_succ_eq_append_getElem hy, e, this]
    · rw [List.take_of_length_le (by omega), List.take_of_length_le (by omega)] at e
      rw [decide_eq_true e] at hK; exact hK
theorem E.eq {x y : E} : pairsOk [(.int .i64), .str, (.int .i64)] (E.v x) (E.v y) = true ∧ cellsEq (E.v x) (E.v y) = decide (x = y) := by
  refine ⟨rfl, ?_⟩
  obtain ⟨p, s, i⟩ := x
  obtain ⟨q, t, j⟩ := y
  show ((p == q) && (((mkStr s).toList == (mkStr t).toList) && ((i == j) && true))) = _
  rw [toList_mkStr, toList_mkStr, Bool.and_true, Bool.eq_iff_iff, Bool.and_eq_true, Bool.and_eq_true, beq_iff_eq, beq_iff_eq, beq_iff_eq, decide_eq_true_eq, E.mk.injEq]
theorem sameEntries_spec {a b : Option Addr} {l m c c2 : Nat} {xs ys : List E} {h : Heap} {K : Value → Heap → Prop} (A : SlCells h a (xs.flatMap E.v)) (hxl : xs.length = l) (B : SlCells h b (ys.flatMap E.v)) (hyl : ys.length = m) (hl : l ≤ 140737488355328) (hK : K (.bool (decide (xs = ys))) h) : C.bolelaw14_sameEntries a l c b m c2 h K := by
  refine bolelaw14_sameEntries.ok (cn (fun hne => ?_) fun heq => ?_)
  · have : xs ≠ ys := by rintro rfl; omega
    rw [decide_eq_false this] at hK; exact hK
  · refine ⟨fun i hh => 0 ≤ i ∧ i ≤ l ∧ h = hh ∧ xs.take i.toNat = ys.take i.toNat, fun i _ => ((l : Int) - i).toNat, ⟨by omega, by omega, rfl, rfl⟩, ?_⟩
    rintro i _ ⟨i0, i1, rfl, e⟩
    refine cd (fun hi => ?_) fun hi => ?_
    · have hx : i.toNat < xs.length := by omega
      have hy : i.toNat < ys.length := by omega
      have get : ∀ {a : Option Addr} {zs : List E}, SlCells h a (zs.flatMap E.v) → ∀ hz : i.toNat < zs.length, ∃ p, a = some p ∧ Cells h (p.add (i.toNat * 3)) (E.v zs[i.toNat]) := by
        intro a zs Z hz
        cases a with
        | none =>
          have Z : zs.flatMap E.v = [] := Z
          have := flat_length E.v 3 zs (fun x _ => E.len x)
          rw [Z, List.length_nil] at this
          omega
        | some p =>
          refine ⟨p, rfl, ?_⟩
          have := Cells.part (show Cells h p (zs.flatMap E.v) from Z) (i.toNat * 3) 3
          rw [flat_part E.v 3 _ (fun x _ => E.len x) i.toNat hz] at this
          exact this
      obtain ⟨p, rfl, ca⟩ := get A hx
      obtain ⟨q, rfl, cb⟩ := get B hy
      refine ⟨⟨i0, hi⟩, os ⟨_, rfl, ca, ⟨i0, by omega⟩, os ⟨_, rfl, cb, E.eq.1, cnot ?_⟩⟩⟩
      rw [E.eq.2]
      refine cd (fun heq2 => ?_) fun hne => ?_
      · rw [wrap_i64 (by omega) (by omega)]
        refine ⟨⟨by omega, by omega, rfl, ?_⟩, falls hi⟩
        rw [show (i + 1).toNat = i.toNat + 1 by omega, List.take_succ_eq_append_getElem hx, List.take_succ_eq_append_getElem hy, e, heq2]
      · have : xs ≠ ys := by rintro rfl; exact hne rfl
        rw [decide_eq_false this] at hK; exact hK
    · rw [List.take_of_length_le (by omega), List.take_of_length_le (by omega)] at e
      rw [decide_eq_true e] at hK; exact hK
end Go.Proofs.YtgpkcakanieodaaDoor.Ss
