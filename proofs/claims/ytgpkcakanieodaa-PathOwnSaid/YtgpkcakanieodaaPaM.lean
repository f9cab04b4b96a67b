/-
  PATHS: PathOwn.
-/
import Derived.Test.YtgpkcakanieodaaPaL
namespace Go.Proofs.Ytgpkcakanieodaa.Pa
open Go Go.Proofs Go.Proofs.Ytgpkcakanieodaa.Wx Go.Proofs.Ytgpkcakanieodaa.Hp Go.Proofs.Ytgpkcakanieodaa.W Go.Proofs.Ytgpkcakanieodaa.Sk Go.Proofs.Ytgpkcakanieodaa.Ch Go.Proofs.Ytgpkcakanieodaa.Rg Go.Proofs.Ytgpkcakanieodaa.Rz

variable {h0 hh h' : Heap} {col col' : Nat → Nat} {d : Rs}
def allL (xs : List Txt) : List (List Txt) := xs.flatMap items3
theorem allL_snoc (xs : List Txt) (x : Txt) : allL (xs ++ [x]) = allL xs ++ items3 x := by simp [allL]
/-- what the three functions answer, taken in turn, and put into the row -/
theorem own_take {NEXT : Option Addr → Nat → Nat → Heap → Prop} {b0 : Nat} {xs : List Txt} (hx : ∀ x ∈ xs, x.length ≤ 9223372036854775806) (x3 : xs.length = 3) (hb : b0 < h0.size) (rb : rd h0 b0 = strs xs)
    (hN : ∀ h' col' lA lC ls, St h0 h' col' ⟨lA, lC, ls, (allL xs).map strs, none, 0, [], [], none, 0, [], []⟩ → ls.length = 9 → (∀ i (hi : i < ls.length), ls[i].l ≤ 32) → NEXT lA ls.length lC h') :
  ∃ (I1 : Option Addr → Nat → Nat → Int → Heap → Prop) (M1 : Option Addr → Nat → Nat → Int → Heap → Nat), I1 none 0 0 0 h0 ∧
  ∀ (lA1 : Option Addr) (lL1 : Nat) (lC1 : Nat) (n1 : Int), ∀ h4 : Heap, I1 lA1 lL1 lC1 n1 h4 →
  bif (decide (n1 < (3 : Int))) then (
  (0 ≤ n1 ∧ n1 < (3 : Int)) ∧
  ∃ (s2 : ByteArray), cellOf h4 (Addr.add ⟨b0, 0, none⟩ (Int.toNat n1)) = some (.string s2) ∧
  C.path_Parse s2 h4 fun r2 h5 =>
  ∃ (sA1 : Option Addr) (sL1 : Nat) (sC1 : Nat) (n2 : Int), r2 = .tuple #[.slice sA1 sL1 sC1, .int .i64 n2] ∧
  C.path_Text s2 h5 fun r3 h6 =>
  ∃ (sA2 : Option Addr) (sL2 : Nat) (sC2 : Nat) (b2 : Bool) (n3 : Int), r3 = .tuple #[.slice sA2 sL2 sC2, .bool b2, .int .i64 n3] ∧
  C.path_Make s2 h6 fun r4 h7 =>
  ∃ (sA3 : Option Addr) (sL3 : Nat) (sC3 : Nat) (s3 : ByteArray) (n4 : Int), r4 = .tuple #[.slice sA3 sL3 sC3, .string s3, .int .i64 n4] ∧
  New [.slice sA1 sL1 sC1, .slice sA2 sL2 sC2, .slice sA3 sL3 sC3] 42 h7 fun h8 =>
  ∃ new1 : List Value, List.length new1 = 3 * 1 ∧ SlCells h8 (some ⟨h7.size, 0, none⟩) new1 ∧ (∀ v ∈ new1, v.oneCell' = true) ∧
  AppendP ti42 42 lA1 lL1 lC1 3 new1 h8 fun sA4 sL4 sC4 h9 =>
  I1 sA4 sL4 sC4 (IntKind.wrap .i64 (n1 + 1)) h9 ∧ M1 sA4 sL4 sC4 (IntKind.wrap .i64 (n1 + 1)) h9 < M1 lA1 lL1 lC1 n1 h4) else NEXT lA1 lL1 lC1 h4 := by
  refine ⟨fun A L C n h => 0 ≤ n ∧ n ≤ 3 ∧ ∃ col ls, St h0 h col ⟨A, C, ls, (allL (xs.take n.toNat)).map strs, none, 0, [], [], none, 0, [], []⟩ ∧ L = ls.length ∧ ls.length = 3 * n.toNat ∧ ∀ i (hi : i < ls.length), ls[i].l ≤ 32, fun _ _ _ n _ => ((3 : Nat) - n).toNat,
    ⟨by omega, by omega, fun _ => 0, [], ⟨Fr.refl _ _, fun _ _ => rfl, Nat.zero_le _, Nat.zero_le _, Nat.zero_le _, Rw.nil _ _ _ _, Rw.nil _ _ _ _, Rw.nil _ _ _ _⟩, rfl, rfl, fun i hi => absurd hi (Nat.not_lt_zero _)⟩, ?_⟩
  rintro A L C n h4 ⟨z0, z1, col, ls, t, rfl, hl, ll⟩
  refine cd (fun hn => ?_) fun hn => ?_
  rotate_left
  · have e3 : n.toNat = 3 := by omega
    rw [e3, List.take_of_length_le (by omega)] at t
    exact hN h4 col A C ls t (by omega) ll
  have hi : n.toNat < xs.length := by omega
  have hxl := hx _ (List.getElem_mem hi)
  have r4 : rd h4 b0 = strs xs := (t.fr.rd hb fun x => x).trans rb
  have et : xs.take (n + 1).toNat = xs.take n.toNat ++ [xs[n.toNat]] := by rw [show (n + 1).toNat = n.toNat + 1 by omega, List.take_succ_eq_append_getElem hi]
  have cx : cellOf h4 (Addr.add ⟨b0, 0, none⟩ n.toNat) = some (.string (mkStr xs[n.toNat])) := rda r4 (by rw [Nat.zero_add, strs, List.getElem?_map, List.getElem?_eq_getElem hi]; rfl)
  generalize xs[n.toNat] = x at hxl cx et
  rw [wrap_i64 (n := n + 1) (by omega) (by omega)]
  refine ⟨⟨z0, hn⟩, _, cx, Parse_spec hxl fun a1 l1 c1 h5 f5 L1 => ⟨_, _, _, _, rfl, Text_spec hxl fun a2 l2 c2 h6 f6 L2 => ⟨_, _, _, _, _, rfl, Make_spec hxl fun a3 l3 c3 h7 f7 L3 => ⟨_, _, _, _, _, rfl, New.intro fun h8 n8 => ?_⟩⟩⟩⟩
  have z5 := f5.size
  have z6 := f6.size
  have z7 := f7.size
  have z8 := n8.size
  have F8 : Fr No h4 h8 := ((f5.no f6).no f7).new n8
  refine ⟨_, rfl, cellsAll n8.rd, fun v hv => ?_, ?_⟩
  · rcases List.mem_cons.mp hv with rfl | hv
    · rfl
    · rcases List.mem_cons.mp hv with rfl | hv
      · rfl
      · rw [List.mem_singleton.mp hv]; rfl
  obtain ⟨c8, cag, ca, cb, cc⟩ : ∃ c8 : Nat → Nat, Ag h4.size col c8 ∧ (∀ y, h4.size ≤ y → y < h5.size → c8 y = 10 + ls.length + 0) ∧ (∀ y, h5.size ≤ y → y < h6.size → c8 y = 10 + ls.length + 1) ∧ (∀ y, h6.size ≤ y → y < h7.size → c8 y = 10 + ls.length + 2) :=
    ⟨fun y => if y < h4.size then col y else if y < h5.size then 10 + ls.length + 0 else if y < h6.size then 10 + ls.length + 1 else if y < h7.size then 10 + ls.length + 2 else 0,
      fun y hy => if_pos hy,
      fun y b1 b2 => by show (if y < h4.size then _ else if y < h5.size then _ else _) = _; rw [if_neg (by omega), if_pos b2],
      fun y b1 b2 => by show (if y < h4.size then _ else if y < h5.size then _ else if y < h6.size then _ else _) = _; rw [if_neg (by omega), if_neg (by omega), if_pos b2],
      fun y b1 b2 => by show (if y < h4.size then _ else if y < h5.size then _ else if y < h6.size then _ else if y < h7.size then _ else _) = _; rw [if_neg (by omega), if_neg (by omega), if_neg (by omega), if_pos b2]⟩
  have t8 := t.free F8 cag fun _ _ x => x.elim
  have I1 := L1.on ((f6.no f7).new n8) ca
  have I2 := L2.on (f7.new n8) cb
  have I3 := L3.on n8.fr cc
  have hbytes : (ti42).bytes = 24 := rfl
  refine append_col (elem := ti42) (show Sl h8 (ti42).cells A ls.length C (ls.map Sc.v) (On c8 1) from t8.lists.row) rfl rfl (by rw [hbytes]; omega) (by omega) fun a9 c9 h9 f9 s9 => ?_
  have t9 := t8.lpush (xs := [⟨a1, l1, c1⟩, ⟨a2, l2, c2⟩, ⟨a3, l3, c3⟩]) (xv := [strs (parseA x true).1, strs (parseA x false).1, strs (makeA x).1]) rfl rfl (by show ls.length + 3 ≤ 9; omega) f9 s9 rfl fun i h1 h2 => by
    have h1 : i < 3 := h1
    obtain rfl | rfl | rfl : i = 0 ∨ i = 1 ∨ i = 2 := by omega
    · exact I1
    · exact I2
    · exact I3
  refine ⟨⟨by omega, by omega, upd c8 h8.size 1, ls ++ [⟨a1, l1, c1⟩, ⟨a2, l2, c2⟩, ⟨a3, l3, c3⟩], ?_, by rw [List.length_append]; rfl, ?_, fun i hi => ?_⟩, falls (m := 3) hn⟩
  · rw [et, allL_snoc, List.map_append]; exact t9
  · rw [List.length_append]; show ls.length + 3 = _; omega
  · rw [List.length_append] at hi
    have hi : i < ls.length + 3 := hi
    by_cases e : i < ls.length
    · rw [List.getElem_append_left e]; exact ll i e
    · rw [List.getElem_append_right (by omega)]
      have p1 := (parse_fits (s := x) (b := true)).1
      have p2 := (parse_fits (s := x) (b := false)).1
      have p3 := Make_short x
      have q1 := L1.1
      have q2 := L2.1
      have q3 := L3.1
      obtain e2 | e2 | e2 : i - ls.length = 0 ∨ i - ls.length = 1 ∨ i - ls.length = 2 := by omega
      · simp only [e2]; show l1 ≤ 32; omega
      · simp only [e2]; show l2 ≤ 32; omega
      · simp only [e2]; show l3 ≤ 32; omega
/-- copies of the lists -/
theorem own_was {NEXT : Option Addr → Nat → Nat → Heap → Prop} {lA : Option Addr} {lC : Nat} {ls : List Sc} {ps : List (List Txt)} (s : St h0 hh col ⟨lA, lC, ls, ps.map strs, none, 0, [], [], none, 0, [], []⟩) (l9 : ls.length = 9) (ll : ∀ i (hi : i < ls.length), ls[i].l ≤ 32)
    (hN : ∀ h' col' wA wC os, St h0 h' col' ⟨lA, lC, ls, ps.map strs, none, 0, [], [], wA, wC, os, ps.map strs⟩ → NEXT wA os.length wC h') :
  ∃ (I2 : Option Addr → Nat → Nat → Int → Heap → Prop) (M2 : Option Addr → Nat → Nat → Int → Heap → Nat), I2 none 0 0 0 hh ∧
  ∀ (wasA1 : Option Addr) (wasL1 : Nat) (wasC1 : Nat) (n5 : Int), ∀ h10 : Heap, I2 wasA1 wasL1 wasC1 n5 h10 →
  bif (decide (n5 < (ls.length : Int))) then (
  (0 ≤ n5 ∧ n5 < (ls.length : Int)) ∧
  onSome lA fun p1 =>
  ∃ (sA5 : Option Addr) (sL5 : Nat) (sC5 : Nat), cellOf h10 (Addr.add p1 (Int.toNat n5)) = some (.slice sA5 sL5 sC5) ∧
  New [] 9 h10 fun h11 =>
  ∃ new2 : List Value, List.length new2 = sL5 * 1 ∧ SlCells h11 sA5 new2 ∧ (∀ v ∈ new2, v.oneCell' = true) ∧
  AppendP ti9 9 (some ⟨h10.size, 0, none⟩) 0 0 sL5 new2 h11 fun sA6 sL6 sC6 h12 =>
  New [.slice sA6 sL6 sC6] 42 h12 fun h13 =>
  ∃ new3 : List Value, List.length new3 = 1 * 1 ∧ SlCells h13 (some ⟨h12.size, 0, none⟩) new3 ∧ (∀ v ∈ new3, v.oneCell' = true) ∧
  AppendP ti42 42 wasA1 wasL1 wasC1 1 new3 h13 fun sA7 sL7 sC7 h14 =>
  I2 sA7 sL7 sC7 (IntKind.wrap .i64 (n5 + 1)) h14 ∧ M2 sA7 sL7 sC7 (IntKind.wrap .i64 (n5 + 1)) h14 < M2 wasA1 wasL1 wasC1 n5 h10) else NEXT wasA1 wasL1 wasC1 h10 := by
  have lp : ls.length = (ps.map strs).length := s.lists.len
  rw [List.length_map] at lp
  refine ⟨fun A L C n h => 0 ≤ n ∧ n ≤ 9 ∧ ∃ col os, St h0 h col ⟨lA, lC, ls, ps.map strs, none, 0, [], [], A, C, os, (ps.take n.toNat).map strs⟩ ∧ L = os.length ∧ os.length = n.toNat, fun _ _ _ n _ => ((9 : Nat) - n).toNat,
    ⟨by omega, by omega, col, [], s, rfl, rfl⟩, ?_⟩
  rintro A L C n h10 ⟨z0, z1, col, os, t, rfl, ho⟩
  refine cd (fun hn => ?_) fun hn => ?_
  rotate_left
  · rw [List.take_of_length_le (by omega)] at t
    exact hN h10 col A C os t
  have i2 : n.toNat < ls.length := by omega
  have ip : n.toNat < ps.length := by omega
  obtain ⟨p, e, cc⟩ := t.lists.cell i2
  have e : lA = some p := e
  have cc : cellOf h10 (Addr.add p n.toNat) = some (.slice ls[n.toNat].a ls[n.toNat].l ls[n.toNat].c) := cc
  have hll := ll n.toNat i2
  refine ⟨⟨z0, hn⟩, oe e ⟨_, _, _, cc, New.intro fun h11 n11 => ?_⟩⟩
  have z11 := n11.size
  have ag11 : Ag h10.size col (upd col h10.size (30 + n.toNat)) := ag_upd _ _ _
  have t11 := t.free n11.fr ag11 fun _ _ x => x.elim
  have c11 : upd col h10.size (30 + n.toNat) h10.size = 30 + n.toNat := upd_ge' (Nat.le_refl _)
  generalize upd col h10.size (30 + n.toNat) = col11 at t11 c11
  have it := t11.lists.at_ n.toNat i2 (show n.toNat < (ps.map strs).length by rw [List.length_map]; exact ip)
  have it : Sl h11 1 ls[n.toNat].a ls[n.toNat].l ls[n.toNat].c (strs ps[n.toNat]) (On col11 (10 + n.toNat)) := by
    have : (ps.map strs)[n.toNat]'(by rw [List.length_map]; exact ip) = strs ps[n.toNat] := List.getElem_map _
    rw [← this]; exact it
  have S11 : Sl h11 1 (some ⟨h10.size, 0, none⟩) 0 0 [] (On col11 (30 + n.toNat)) := Sl.made (zs := []) n11 rfl c11 rfl (Nat.le_refl _) rfl
  have hbytes : (ti9).bytes = 16 := rfl
  refine ⟨strs ps[n.toNat], it.1, it.cells, strs_one _, append_col (elem := ti9) S11 it.1 rfl (by rw [hbytes]; omega) (by omega) fun a6 c6 h12 f12 s12 => ?_⟩
  have z12 := f12.size
  have ag12 : Ag h11.size col11 (upd col11 h11.size (30 + n.toNat)) := ag_upd _ _ _
  have t12 := t11.free f12 ag12 fun b _ hb => by have hb : col11 b = 30 + n.toNat := hb; show 30 + os.length ≤ _; omega
  generalize upd col11 h11.size (30 + n.toNat) = col12 at t12 s12
  refine New.intro fun h13 n13 => ⟨_, rfl, cellsAll n13.rd, fun v hv => by rw [List.mem_singleton.mp hv]; rfl, ?_⟩
  have t13 := t12.quiet n13.fr
  have s13 := Rz.Sl.keep' s12 n13.fr (ag_upd col12 h12.size 0) fun _ _ _ x => x
  generalize upd col12 h12.size 0 = col13 at t13 s13
  have hbytes2 : (ti42).bytes = 24 := rfl
  refine append_col (elem := ti42) (show Sl h13 (ti42).cells A os.length C (os.map Sc.v) (On col13 3) from t13.was.row) rfl rfl (by rw [hbytes2]; omega) (by omega) fun a7 c7 h14 f14 s14 => ?_
  have t14 := t13.opush (x := ⟨a6, 0 + ls[n.toNat].l, c6⟩) (xv := strs ps[n.toNat]) (a' := a7) (c' := c7) (show os.length < 9 by omega) f14 s14 (by show Sl h13 1 a6 _ c6 _ (On col13 (30 + os.length)); rw [ho]; exact s13)
  rw [wrap_i64 (n := n + 1) (by omega) (by omega)]
  refine ⟨⟨by omega, by omega, upd col13 h13.size 3, os ++ [⟨a6, 0 + ls[n.toNat].l, c6⟩], ?_, by rw [List.length_append, List.length_singleton], by rw [List.length_append, List.length_singleton]; omega⟩, by show ((9 : Nat) - (n + 1)).toNat < ((9 : Nat) - n).toNat; omega⟩
  rw [show (n + 1).toNat = n.toNat + 1 by omega, List.take_succ_eq_append_getElem ip, List.map_append]
  exact t14
/-- an item of the copies -/
theorem St.cell {ps : List (List Txt)} (s : St h0 hh col d) (ho : d.ov = ps.map strs) {i : Nat} {q : List Txt} (hq : ps[i]? = some q) : ∃ p a l c, d.wA = some p ∧ i < d.os.length ∧ cellOf hh (p.add i) = some (.slice a l c) ∧ Rd hh q a l := by
  obtain ⟨hi, hq⟩ := List.getElem?_eq_some_iff.mp hq
  subst hq
  have hlen := s.was.len
  rw [ho, List.length_map] at hlen
  obtain ⟨p, e, cc⟩ := s.was.cell (i := i) (by omega)
  have it := s.was.at_ i (by omega) (by rw [ho, List.length_map]; exact hi)
  have ev : d.ov[i]'(by rw [ho, List.length_map]; exact hi) = strs ps[i] := by simp only [ho, List.getElem_map]
  rw [ev] at it
  have h1 := it.1
  rw [strs_length] at h1
  exact ⟨p, _, _, _, e, by omega, cc, it.cells, by omega⟩
theorem own_rest {K : Value → Heap → Prop} {lA wA : Option Addr} {lC wC : Nat} {ls os : List Sc} {s t : Txt} (hs : s.length ≤ 9223372036854775806) (S : St h0 hh col ⟨lA, lC, ls, (allL [s, t, s]).map strs, none, 0, [], [], wA, wC, os, (allL [s, t, s]).map strs⟩) (l9 : ls.length = 9) (ll : ∀ i (hi : i < ls.length), ls[i].l ≤ 32)
    (hK : ∀ h', Fr No h0 h' → K (.bool true) h') :
  ∃ (I3 : Int → Heap → Prop) (M3 : Int → Heap → Nat), I3 0 hh ∧
  ∀ (i1 : Int), ∀ h15 : Heap, I3 i1 h15 →
  bif (decide (i1 < 3)) then (
  (0 ≤ i1 ∧ i1 < (os.length : Int)) ∧
  onSome wA fun p2 =>
  ∃ (sA8 : Option Addr) (sL8 : Nat) (sC8 : Nat), cellOf h15 (Addr.add p2 (Int.toNat i1)) = some (.slice sA8 sL8 sC8) ∧
  (0 ≤ (IntKind.wrap .i64 (6 + i1)) ∧ (IntKind.wrap .i64 (6 + i1)) < (os.length : Int)) ∧
  onSome wA fun p3 =>
  ∃ (sA9 : Option Addr) (sL9 : Nat) (sC9 : Nat), cellOf h15 (Addr.add p3 (Int.toNat (IntKind.wrap .i64 (6 + i1)))) = some (.slice sA9 sL9 sC9) ∧
  C.bolelaw13_same sA8 sL8 sC8 sA9 sL9 sC9 h15 fun r5 h16 =>
  ∃ (b3 : Bool), r5 = .bool b3 ∧
  bif (!b3) then (
  K (.bool false) h16) else (
  I3 (IntKind.wrap .i64 (i1 + 1)) h16 ∧ M3 (IntKind.wrap .i64 (i1 + 1)) h16 < M3 i1 h15)) else (
  ∃ (I4 : Int → Heap → Prop) (M4 : Int → Heap → Nat), I4 0 h15 ∧
  ∀ (n6 : Int), ∀ h17 : Heap, I4 n6 h17 →
  bif (decide (n6 < (ls.length : Int))) then (
  (0 ≤ n6 ∧ n6 < (ls.length : Int)) ∧
  onSome lA fun p4 =>
  ∃ (sA10 : Option Addr) (sL10 : Nat) (sC10 : Nat), cellOf h17 (Addr.add p4 (Int.toNat n6)) = some (.slice sA10 sL10 sC10) ∧
  ∃ (I5 : Int → Heap → Prop) (M5 : Int → Heap → Nat), I5 0 h17 ∧
  ∀ (n7 : Int), ∀ h18 : Heap, I5 n7 h18 →
  bif (decide (n7 < (sL10 : Int))) then (
  C.bolelaw13_mark n6 h18 fun r6 h19 =>
  ∃ (s4 : ByteArray), r6 = .string s4 ∧
  (0 ≤ n7 ∧ n7 < (sL10 : Int)) ∧
  onSome sA10 fun p5 =>
  Put (Addr.add p5 (Int.toNat n7)) (.string s4) h19 fun h20 =>
  I5 (IntKind.wrap .i64 (n7 + 1)) h20 ∧ M5 (IntKind.wrap .i64 (n7 + 1)) h20 < M5 n7 h18) else (
  I4 (IntKind.wrap .i64 (n6 + 1)) h18 ∧ M4 (IntKind.wrap .i64 (n6 + 1)) h18 < M4 n6 h17)) else (
  ∃ (I6 : Option Addr → Nat → Nat → Int → Heap → Prop) (M6 : Option Addr → Nat → Nat → Int → Heap → Nat), I6 none 0 0 0 h17 ∧
  ∀ (longsA1 : Option Addr) (longsL1 : Nat) (longsC1 : Nat) (n8 : Int), ∀ h21 : Heap, I6 longsA1 longsL1 longsC1 n8 h21 →
  bif (decide (n8 < (ls.length : Int))) then (
  (0 ≤ n8 ∧ n8 < (ls.length : Int)) ∧
  onSome lA fun p6 =>
  ∃ (sA11 : Option Addr) (sL11 : Nat) (sC11 : Nat), cellOf h21 (Addr.add p6 (Int.toNat n8)) = some (.slice sA11 sL11 sC11) ∧
  C.bolelaw13_mark n8 h21 fun r7 h22 =>
  ∃ (s5 : ByteArray), r7 = .string s5 ∧
  C.bolelaw13_mark n8 h22 fun r8 h23 =>
  ∃ (s6 : ByteArray), r8 = .string s6 ∧
  New [.string s5, .string s6] 9 h23 fun h24 =>
  ∃ new4 : List Value, List.length new4 = 2 * 1 ∧ SlCells h24 (some ⟨h23.size, 0, none⟩) new4 ∧ (∀ v ∈ new4, v.oneCell' = true) ∧
  AppendP ti9 9 sA11 sL11 sC11 2 new4 h24 fun sA12 sL12 sC12 h25 =>
  New [.slice sA12 sL12 sC12] 42 h25 fun h26 =>
  ∃ new5 : List Value, List.length new5 = 1 * 1 ∧ SlCells h26 (some ⟨h25.size, 0, none⟩) new5 ∧ (∀ v ∈ new5, v.oneCell' = true) ∧
  AppendP ti42 42 longsA1 longsL1 longsC1 1 new5 h26 fun sA13 sL13 sC13 h27 =>
  I6 sA13 sL13 sC13 (IntKind.wrap .i64 (n8 + 1)) h27 ∧ M6 sA13 sL13 sC13 (IntKind.wrap .i64 (n8 + 1)) h27 < M6 longsA1 longsL1 longsC1 n8 h21) else (
  ∃ (I7 : Int → Heap → Prop) (M7 : Int → Heap → Nat), I7 0 h21 ∧
  ∀ (n9 : Int), ∀ h28 : Heap, I7 n9 h28 →
  bif (decide (n9 < (longsL1 : Int))) then (
  (0 ≤ n9 ∧ n9 < (longsL1 : Int)) ∧
  onSome longsA1 fun p7 =>
  ∃ (sA14 : Option Addr) (sL14 : Nat) (sC14 : Nat), cellOf h28 (Addr.add p7 (Int.toNat n9)) = some (.slice sA14 sL14 sC14) ∧
  ∃ (I8 : Int → Heap → Prop) (M8 : Int → Heap → Nat), I8 0 h28 ∧
  ∀ (n10 : Int), ∀ h29 : Heap, I8 n10 h29 →
  bif (decide (n10 < (sL14 : Int))) then (
  (0 ≤ n10 ∧ n10 < (sL14 : Int)) ∧
  onSome sA14 fun p8 =>
  ∃ (s7 : ByteArray), cellOf h29 (Addr.add p8 (Int.toNat n10)) = some (.string s7) ∧
  C.bolelaw13_mark n9 h29 fun r9 h30 =>
  ∃ (s8 : ByteArray), r9 = .string s8 ∧
  bif (!(s7.toList == s8.toList)) then (
  K (.bool false) h30) else (
  (0 ≤ n9 ∧ n9 < (ls.length : Int)) ∧
  onSome lA fun p9 =>
  ∃ (sA15 : Option Addr) (sL15 : Nat) (sC15 : Nat), cellOf h30 (Addr.add p9 (Int.toNat n9)) = some (.slice sA15 sL15 sC15) ∧
  bif (decide (n10 < (sL15 : Int))) then (
  (0 ≤ n9 ∧ n9 < (ls.length : Int)) ∧
  onSome lA fun p10 =>
  ∃ (sA16 : Option Addr) (sL16 : Nat) (sC16 : Nat), cellOf h30 (Addr.add p10 (Int.toNat n9)) = some (.slice sA16 sL16 sC16) ∧
  (0 ≤ n10 ∧ n10 < (sL16 : Int)) ∧
  onSome sA16 fun p11 =>
  ∃ (s9 : ByteArray), cellOf h30 (Addr.add p11 (Int.toNat n10)) = some (.string s9) ∧
  bif (!(s9.toList == s7.toList)) then (
  K (.bool false) h30) else (
  I8 (IntKind.wrap .i64 (n10 + 1)) h30 ∧ M8 (IntKind.wrap .i64 (n10 + 1)) h30 < M8 n10 h29)) else (
  I8 (IntKind.wrap .i64 (n10 + 1)) h30 ∧ M8 (IntKind.wrap .i64 (n10 + 1)) h30 < M8 n10 h29))) else (
  I7 (IntKind.wrap .i64 (n9 + 1)) h29 ∧ M7 (IntKind.wrap .i64 (n9 + 1)) h29 < M7 n9 h28)) else (
  C.path_Parse (mkStr s) h28 fun r10 h31 =>
  ∃ (sA17 : Option Addr) (sL17 : Nat) (sC17 : Nat) (n11 : Int), r10 = .tuple #[.slice sA17 sL17 sC17, .int .i64 n11] ∧
  C.path_Text (mkStr s) h31 fun r11 h32 =>
  ∃ (sA18 : Option Addr) (sL18 : Nat) (sC18 : Nat) (b4 : Bool) (n12 : Int), r11 = .tuple #[.slice sA18 sL18 sC18, .bool b4, .int .i64 n12] ∧
  C.path_Make (mkStr s) h32 fun r12 h33 =>
  ∃ (sA19 : Option Addr) (sL19 : Nat) (sC19 : Nat) (s10 : ByteArray) (n13 : Int), r12 = .tuple #[.slice sA19 sL19 sC19, .string s10, .int .i64 n13] ∧
  (0 ≤ (0 : Int) ∧ 0 < (os.length : Int)) ∧
  onSome wA fun p12 =>
  ∃ (sA20 : Option Addr) (sL20 : Nat) (sC20 : Nat), cellOf h33 (Addr.add p12 (Int.toNat 0)) = some (.slice sA20 sL20 sC20) ∧
  C.bolelaw13_same sA17 sL17 sC17 sA20 sL20 sC20 h33 fun r13 h34 =>
  ∃ (b5 : Bool), r13 = .bool b5 ∧
  bif b5 then (
  (0 ≤ (1 : Int) ∧ 1 < (os.length : Int)) ∧
  onSome wA fun p13 =>
  ∃ (sA21 : Option Addr) (sL21 : Nat) (sC21 : Nat), cellOf h34 (Addr.add p13 (Int.toNat 1)) = some (.slice sA21 sL21 sC21) ∧
  C.bolelaw13_same sA18 sL18 sC18 sA21 sL21 sC21 h34 fun r14 h35 =>
  ∃ (b6 : Bool), r14 = .bool b6 ∧
  bif b6 then (
  (0 ≤ (2 : Int) ∧ 2 < (os.length : Int)) ∧
  onSome wA fun p14 =>
  ∃ (sA22 : Option Addr) (sL22 : Nat) (sC22 : Nat), cellOf h35 (Addr.add p14 (Int.toNat 2)) = some (.slice sA22 sL22 sC22) ∧
  C.bolelaw13_same sA19 sL19 sC19 sA22 sL22 sC22 h35 fun r15 h36 =>
  ∃ (b7 : Bool), r15 = .bool b7 ∧
  K (.bool b7) h36) else (
  K (.bool false) h35)) else (
  K (.bool false) h34))))) := by
  have hrep : ∀ i, i < 3 → ∃ q : List Txt, (allL [s, t, s])[i]? = some q ∧ (allL [s, t, s])[6 + i]? = some q ∧ q.length ≤ 32 := fun i hi => by
    obtain rfl | rfl | rfl : i = 0 ∨ i = 1 ∨ i = 2 := by omega
    · exact ⟨_, rfl, rfl, (parse_fits (s := s) (b := true)).1⟩
    · exact ⟨_, rfl, rfl, (parse_fits (s := s) (b := false)).1⟩
    · exact ⟨_, rfl, rfl, Make_short s⟩
  have g0 : (allL [s, t, s])[0]? = some (parseA s true).1 := rfl
  have g1 : (allL [s, t, s])[1]? = some (parseA s false).1 := rfl
  have g2 : (allL [s, t, s])[2]? = some (makeA s).1 := rfl
  generalize allL [s, t, s] = ps at S hrep g0 g1 g2
  refine ⟨fun i h => 0 ≤ i ∧ i ≤ 3 ∧ hh = h, fun i _ => ((3 : Nat) - i).toNat, ⟨by omega, by omega, rfl⟩, ?_⟩
  rintro i _ ⟨i0, i1, rfl⟩
  refine cd (fun hi => ?_) fun hi => ?_
  · obtain ⟨q, q1, q2, q3⟩ := hrep i.toNat (by omega)
    obtain ⟨p, a, l, c, e, ho, cc, R⟩ := S.cell (ps := ps) rfl q1
    obtain ⟨p', a', l', c', e', ho', cc', R'⟩ := S.cell (ps := ps) rfl q2
    have e : wA = some p := e
    have e' : wA = some p' := e'
    have ho' : 6 + i.toNat < os.length := ho'
    rw [wrap_i64 (n := 6 + i) (by omega) (by omega), show (6 + i).toNat = 6 + i.toNat by omega, wrap_i64 (n := i + 1) (by omega) (by omega)]
    refine ⟨⟨i0, by omega⟩, oe e ⟨_, _, _, cc, ⟨by omega, by omega⟩, oe e' ⟨_, _, _, cc', same_rd R R' (by omega) ⟨_, rfl, cf ?_ ⟨⟨by omega, by omega, rfl⟩, by show ((3 : Nat) - (i + 1)).toNat < ((3 : Nat) - i).toNat; omega⟩⟩⟩⟩⟩
    rw [decide_eq_true rfl]; rfl
  refine own_mark (K := K) S rfl ll fun h17 col17 ws t17 hw => ?_
  refine own_long (K := K) t17 rfl rfl rfl rfl ll hw fun h21 col21 gA gC gs gv t21 gl hgl hgv => ?_
  refine own_see (K := K) t21 gl ll hgl hw hgv fun h28 f28 => ?_
  refine Parse_spec hs fun a1 l1 c1 h31 f31 L1 => ⟨_, _, _, _, rfl, Text_spec hs fun a2 l2 c2 h32 f32 L2 => ⟨_, _, _, _, _, rfl, Make_spec hs fun a3 l3 c3 h33 f33 L3 => ⟨_, _, _, _, _, rfl, ?_⟩⟩⟩
  have F33 := ((f28.no f31).no f32).no f33
  have t33 := t21.quiet F33
  obtain ⟨p0, b0, m0, d0, e0, o0, q0, R0⟩ := t33.cell (ps := ps) rfl g0
  obtain ⟨p1, b1, m1, d1, e1, o1, q1, R1⟩ := t33.cell (ps := ps) rfl g1
  obtain ⟨p2, b2, m2, d2, e2, o2, q2, R2⟩ := t33.cell (ps := ps) rfl g2
  have e0 : wA = some p0 := e0
  have e1 : wA = some p1 := e1
  have e2 : wA = some p2 := e2
  have o2 : 2 < os.length := o2
  have s0 := (parse_fits (s := s) (b := true)).1
  have s1 := (parse_fits (s := s) (b := false)).1
  have s2 := Make_short s
  refine ⟨⟨by omega, by omega⟩, oe e0 ⟨_, _, _, q0, same_rd ((L1.rd.no f32).no f33) R0 (by omega) ⟨_, rfl, ct (decide_eq_true rfl) ?_⟩⟩⟩
  refine ⟨⟨by omega, by omega⟩, oe e1 ⟨_, _, _, q1, same_rd (L2.rd.no f33) R1 (by omega) ⟨_, rfl, ct (decide_eq_true rfl) ?_⟩⟩⟩
  refine ⟨⟨by omega, by omega⟩, oe e2 ⟨_, _, _, q2, same_rd L3.rd R2 (by omega) ⟨_, rfl, ?_⟩⟩⟩
  rw [decide_eq_true rfl]
  exact hK h33 t33.fr
theorem PathOwn_spec {s t : Txt} {h : Heap} {K : Value → Heap → Prop} (hs : s.length ≤ 9223372036854775806) (ht : t.length ≤ 9223372036854775806) (hK : ∀ h', Fr No h h' → K (.bool true) h') : C.bolelaw13_PathOwn (mkStr s) (mkStr t) h K := by
  refine bolelaw13_PathOwn.ok (known_spec fun h2 f2 => ⟨_, rfl, cf rfl (New.intro fun h3 n3 => ?_)⟩)
  have z3 := n3.size
  refine own_take (xs := [s, t, s]) (fun x hx => ?_) rfl (by omega) n3.rd fun h4 col lA lC ls S l9 ll => ?_
  · simp only [List.mem_cons, List.not_mem_nil, or_false] at hx
    rcases hx with rfl | rfl | rfl
    · exact hs
    · exact ht
    · exact hs
  refine own_was S l9 ll fun h10 col10 wA wC os S10 => ?_
  exact own_rest hs S10 l9 ll fun h' f => hK h' ((f2.new n3).no f)
end Go.Proofs.Ytgpkcakanieodaa.Pa
