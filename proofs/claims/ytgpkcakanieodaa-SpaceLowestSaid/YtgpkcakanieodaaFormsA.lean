/-
  WHAT THE FUNCTIONS COMPUTE, as formulas; each held against the loaded code by the kernel. Written by program (gen.py).
-/
import Derived.Test.YtgpkcakanieodaaTab
namespace Go.Proofs.Ytgpkcakanieodaa.W
open Go Go.Proofs Go.Proofs.Ytgpkcakanieodaa.Wx
-- 3
def bolelaw09_SpaceLowest.k3 (h5 : Heap) (q1 : Option Addr) (left1 : Int) (i1 : Int) (h11 : Heap) (I2 : Int → Int → Heap → Prop) (M2 : Int → Int → Heap → Nat) (h14 : Heap) (K : Value → Heap → Prop) : Prop :=
  ∃ cs3 : List Value, List.length cs3 = 5 ∧ Cells h14 ⟨h5.size, 0, none⟩ cs3 ∧
  C.space_Take q1 cs3 h14 fun r5 h15 =>
  ∃ (n9 : Int) (n10 : Int), r5 = .tuple #[.int .i64 n9, .int .i64 n10] ∧
  bif (n10 != 0) then (
  K (.bool false) h15) else (
  bif (n9 != i1) then (
  K (.bool false) h15) else (
  I2 (IntKind.wrap .i64 (left1 - 1)) (IntKind.wrap .i64 (i1 + 1)) h15 ∧ M2 (IntKind.wrap .i64 (left1 - 1)) (IntKind.wrap .i64 (i1 + 1)) h15 < M2 left1 i1 h11))
def bolelaw09_SpaceLowest.k2 (h5 : Heap) (q1 : Option Addr) (h7 : Heap) (n3 : Int) (left1 : Int) (i1 : Int) (h11 : Heap) (I2 : Int → Int → Heap → Prop) (M2 : Int → Int → Heap → Nat) (K : Value → Heap → Prop) : Prop :=
  (0 ≤ i1 ∧ i1 < ((Int.toNat n3) : Int)) ∧
  ∃ (b1 : Bool), cellOf h11 (Addr.add ⟨h7.size, 0, none⟩ (Int.toNat i1)) = some (.bool b1) ∧
  bif (!b1) then (
  I2 left1 (IntKind.wrap .i64 (i1 + 1)) h11 ∧ M2 left1 (IntKind.wrap .i64 (i1 + 1)) h11 < M2 left1 i1 h11) else (
  C.txn_Txn_Read q1 i1 h11 fun r3 h12 =>
  ∃ (sA1 : Option Addr) (sL1 : Nat) (sC1 : Nat) (n8 : Int), r3 = .tuple #[.slice sA1 sL1 sC1, .int .i64 n8] ∧
  bif (n8 != 0) then (
  K (.bool false) h12) else (
  ∃ bs1 : List UInt8, StrAt h12 sA1 sL1 bs1 ∧
  C.bolelaw09_block 7 h12 fun r4 h13 =>
  ∃ (sA2 : Option Addr) (sL2 : Nat) (sC2 : Nat), r4 = .slice sA2 sL2 sC2 ∧
  StrAt h13 sA1 sL1 (ByteArray.toList (mkStr bs1)) ∧
  ∃ bs2 : List UInt8, StrAt h13 sA2 sL2 bs2 ∧
  bif (!((mkStr bs1).toList == (mkStr bs2).toList)) then (
  K (.bool false) h13) else (
  bolelaw09_SpaceLowest.k3 h5 q1 left1 i1 h11 I2 M2 h13 K)))
def bolelaw09_SpaceLowest.k4 (h5 : Heap) (q1 : Option Addr) (h16 : Heap) (K : Value → Heap → Prop) : Prop :=
  ∃ cs4 : List Value, List.length cs4 = 5 ∧ Cells h16 ⟨h5.size, 0, none⟩ cs4 ∧
  C.space_Take q1 cs4 h16 fun r6 h17 =>
  ∃ (n11 : Int) (n12 : Int), r6 = .tuple #[.int .i64 n11, .int .i64 n12] ∧
  ∃ cs5 : List Value, List.length cs5 = 5 ∧ Cells h17 ⟨h5.size, 0, none⟩ cs5 ∧
  C.space_Free q1 cs5 h17 fun r7 h18 =>
  ∃ (n13 : Int) (n14 : Int), r7 = .tuple #[.int .i64 n13, .int .i64 n14] ∧
  bif (n12 == 90) then (
  bif (n14 == 0) then (
  K (.bool (n13 == 0)) h18) else (
  K (.bool false) h18)) else (
  K (.bool false) h18)
def bolelaw09_SpaceLowest.k1 (h5 : Heap) (q1 : Option Addr) (h7 : Heap) (n3 : Int) (many2 : Int) (h10 : Heap) (K : Value → Heap → Prop) : Prop :=
  ∃ (n6 : Int), cellOf h10 (Addr.add ⟨h5.size, 0, none⟩ 3) = some (.int .i64 n6) ∧
  ∃ (I2 : Int → Int → Heap → Prop) (M2 : Int → Int → Heap → Nat), I2 many2 n6 h10 ∧
  ∀ (left1 : Int) (i1 : Int), ∀ h11 : Heap, I2 left1 i1 h11 →
  ∃ (n7 : Int), cellOf h11 (Addr.add ⟨h5.size, 0, none⟩ 0) = some (.int .i64 n7) ∧
  bif (decide (i1 < n7)) then (
  bif (decide (left1 > 0)) then (
  bolelaw09_SpaceLowest.k2 h5 q1 h7 n3 left1 i1 h11 I2 M2 K) else (
  bolelaw09_SpaceLowest.k4 h5 q1 h11 K)) else (
  bolelaw09_SpaceLowest.k4 h5 q1 h11 K)
def bolelaw09_SpaceLowest.k5 (h5 : Heap) (q1 : Option Addr) (h7 : Heap) (n3 : Int) (many1 : Int) (n4 : Int) (h9 : Heap) (I1 : Int → Int → Heap → Prop) (M1 : Int → Int → Heap → Nat) (n15 : Int) (h19 : Heap) (n18 : Int) (many3 : Int) (want1 : Int) (K : Value → Heap → Prop) : Prop :=
  (0 ≤ (IntKind.wrap .i64 (n15 + n18)) ∧ (IntKind.wrap .i64 (n15 + n18)) < ((Int.toNat n3) : Int)) ∧
  Put (Addr.add ⟨h7.size, 0, none⟩ (Int.toNat (IntKind.wrap .i64 (n15 + n18)))) (.bool true) h19 fun h20 =>
  ∃ cs6 : List Value, List.length cs6 = 5 ∧ Cells h20 ⟨h5.size, 0, none⟩ cs6 ∧
  C.space_Give q1 cs6 (IntKind.wrap .i64 (n15 + n18)) h20 fun r9 h21 =>
  ∃ (n19 : Int), r9 = .int .i64 n19 ∧
  bif (n19 != want1) then (
  K (.bool false) h21) else (
  I1 many3 (IntKind.wrap .i64 (n4 + 1)) h21 ∧ M1 many3 (IntKind.wrap .i64 (n4 + 1)) h21 < M1 many1 n4 h9)
def bolelaw09_SpaceLowest (n1 : Int) (giveA1 : Option Addr) (giveL1 : Nat) (giveC1 : Nat) (K : Value → Heap → Prop) (h1 : Heap) : Prop :=
  C.bolelaw09_mod n1 200 h1 fun r1 h2 =>
  ∃ (n2 : Int), r1 = .int .i64 n2 ∧
  NewRow z27 27 [.int .i64 n2, .slice none 0 0, .int .u8 255, .slice none 0 0] 4 h2 fun h4 =>
  ∃ cs1 : List Value, List.length cs1 = 4 ∧ Cells h4 ⟨h2.size, 0, none⟩ cs1 ∧
  C.bolelaw09_opened cs1 h4 fun r2 h5 =>
  ∃ (q1 : Option Addr) (cs2 : List Value), r2 = .tuple #[.pointer q1, .agg ⟨cs2⟩] ∧
  NewRow z30 30 cs2 5 h5 fun h7 =>
  bif (Option.isNone q1) then (
  K (.bool false) h7) else (
  ∃ (n3 : Int), cellOf h7 (Addr.add ⟨h5.size, 0, none⟩ 0) = some (.int .i64 n3) ∧
  (0 ≤ n3 ∧ n3 ≤ n3 ∧ (1 : Int) * n3 ≤ 281474976710656 ∧ n3 ≤ 281474976710656) ∧
  New (repCells z4 (Int.toNat n3)) 4 h7 fun h8 =>
  ∃ (I1 : Int → Int → Heap → Prop) (M1 : Int → Int → Heap → Nat), I1 0 0 h8 ∧
  ∀ (many1 : Int) (n4 : Int), ∀ h9 : Heap, I1 many1 n4 h9 →
  bif (decide (n4 < (giveL1 : Int))) then (
  (0 ≤ n4 ∧ n4 < (giveL1 : Int)) ∧
  onSome giveA1 fun p1 =>
  ∃ (n5 : Int), cellOf h9 (Addr.add p1 (Int.toNat n4)) = some (.int .i64 n5) ∧
  bif (decide (n4 ≥ 40)) then (
  bolelaw09_SpaceLowest.k1 h5 q1 h7 n3 many1 h9 K) else (
  ∃ (n15 : Int), cellOf h9 (Addr.add ⟨h5.size, 0, none⟩ 3) = some (.int .i64 n15) ∧
  ∃ (n16 : Int), cellOf h9 (Addr.add ⟨h5.size, 0, none⟩ 0) = some (.int .i64 n16) ∧
  ∃ (n17 : Int), cellOf h9 (Addr.add ⟨h5.size, 0, none⟩ 3) = some (.int .i64 n17) ∧
  C.bolelaw09_mod n5 (IntKind.wrap .i64 (n16 - n17)) h9 fun r8 h19 =>
  ∃ (n18 : Int), r8 = .int .i64 n18 ∧
  (cellOf h19 (Addr.add ⟨h5.size, 0, none⟩ 3) = some (.int .i64 n15)) ∧
  (0 ≤ (IntKind.wrap .i64 (n15 + n18)) ∧ (IntKind.wrap .i64 (n15 + n18)) < ((Int.toNat n3) : Int)) ∧
  ∃ (b2 : Bool), cellOf h19 (Addr.add ⟨h7.size, 0, none⟩ (Int.toNat (IntKind.wrap .i64 (n15 + n18)))) = some (.bool b2) ∧
  bif b2 then (
  bolelaw09_SpaceLowest.k5 h5 q1 h7 n3 many1 n4 h9 I1 M1 n15 h19 n18 many1 91 K) else (
  bolelaw09_SpaceLowest.k5 h5 q1 h7 n3 many1 n4 h9 I1 M1 n15 h19 n18 (IntKind.wrap .i64 (many1 + 1)) 0 K))) else (
  bolelaw09_SpaceLowest.k1 h5 q1 h7 n3 many1 h9 K))
def bolelaw09_SpaceLowest.lo : Nat → List Nat × List (Nat × Ty) := fun n => match n with | 8 => ([6, 7, 8, 37, 38], [(9, .int .i64), (39, .int .i64)]) | 22 => ([6, 7, 8], [(14, .int .i64), (15, .int .i64)]) | _ => ([], [])
def bolelaw09_SpaceLowest.od : Nat → Od := fun n => match n with | 11 => (.op 0 [] (.op 1 [] (.op 2 [] (.op 3 [] (.op 4 [] (.op 5 [] (.op 6 [] (.op 7 [] (.op 8 [1] (.op 9 [] (.op 10 [] .nil))))))))))) | 26 => (.op 0 [] (.op 1 [] (.op 2 [] (.op 3 [] (.op 4 [] (.op 5 [4] (.op 6 [] (.op 7 [] (.op 8 [] .nil))))))))) | _ => .nil
theorem bolelaw09_SpaceLowest.eq (n1 : Int) (giveA1 : Option Addr) (giveL1 : Nat) (giveC1 : Nat) (K : Value → Heap → Prop) (h : Heap) : fnX (cx bolelaw09_SpaceLowest.lo bolelaw09_SpaceLowest.od) Try.f3 (Try.f3.body.getD .skip) [.int .i64 n1, .slice giveA1 giveL1 giveC1] K h = bolelaw09_SpaceLowest n1 giveA1 giveL1 giveC1 K h := by kernel_rfl
theorem bolelaw09_SpaceLowest.chk : fnOk (cx bolelaw09_SpaceLowest.lo bolelaw09_SpaceLowest.od) Try.f3 (Try.f3.body.getD .skip) 2 = true := by kernel_rfl
theorem bolelaw09_SpaceLowest.ok {n1 : Int} {giveA1 : Option Addr} {giveL1 : Nat} {giveC1 : Nat} {K : Value → Heap → Prop} {h : Heap} (hx : bolelaw09_SpaceLowest n1 giveA1 giveL1 giveC1 K h) : C.bolelaw09_SpaceLowest n1 giveA1 giveL1 giveC1 h K :=
  fn_to (cxOk _ _) Try.func3 (by kernel_rfl) bolelaw09_SpaceLowest.chk (by rw [bolelaw09_SpaceLowest.eq]; exact hx)

-- 4
def bolelaw13_PathExact.k2 (partsA1 : Option Addr) (partsL1 : Nat) (partsC1 : Nat) (h17 : Heap) (K : Value → Heap → Prop) : Prop :=
  New [] 9 h17 fun h18 =>
  ∃ new1 : List Value, List.length new1 = partsL1 * 1 ∧ SlCells h18 partsA1 new1 ∧ (∀ v ∈ new1, v.oneCell' = true) ∧
  AppendP ti9 9 (some ⟨h17.size, 0, none⟩) 0 0 partsL1 new1 h18 fun sA7 sL7 sC7 h19 =>
  New [.string (mkStr [109, 97, 114, 107])] 9 h19 fun h20 =>
  ∃ new2 : List Value, List.length new2 = 1 * 1 ∧ SlCells h20 (some ⟨h19.size, 0, none⟩) new2 ∧ (∀ v ∈ new2, v.oneCell' = true) ∧
  AppendP ti9 9 sA7 sL7 sC7 1 new2 h20 fun sA8 sL8 sC8 h21 =>
  (0 ≤ (partsL1 : Int) ∧ (partsL1 : Int) ≤ (sC8 : Int)) ∧
  C.path_Join sA8 (Int.toNat (partsL1 : Int)) sC8 h21 fun r15 h22 =>
  ∃ (s6 : ByteArray) (n9 : Int), r15 = .tuple #[.string s6, .int .i64 n9] ∧
  C.boleref13_Join partsA1 partsL1 partsC1 h22 fun r16 h23 =>
  ∃ (s7 : ByteArray) (n10 : Int), r16 = .tuple #[.string s7, .int .i64 n10] ∧
  bif (s6.toList == s7.toList) then (
  bif (n9 == n10) then (
  (0 ≤ (partsL1 : Int) ∧ (partsL1 : Int) ≤ (sC8 : Int)) ∧
  C.bolelaw13_same sA8 (Int.toNat (partsL1 : Int)) sC8 partsA1 partsL1 partsC1 h23 fun r17 h24 =>
  ∃ (b9 : Bool), r17 = .bool b9 ∧
  bif b9 then (
  (0 ≤ (partsL1 : Int) ∧ (partsL1 : Int) < (sL8 : Int)) ∧
  onSome sA8 fun p1 =>
  ∃ (s8 : ByteArray), cellOf h24 (Addr.add p1 (Int.toNat (partsL1 : Int))) = some (.string s8) ∧
  K (.bool (s8.toList == (mkStr [109, 97, 114, 107]).toList)) h24) else (
  K (.bool false) h24)) else (
  K (.bool false) h23)) else (
  K (.bool false) h23)
def bolelaw13_PathExact.k1 (s1 : ByteArray) (partsA1 : Option Addr) (partsL1 : Nat) (partsC1 : Nat) (h9 : Heap) (K : Value → Heap → Prop) : Prop :=
  C.path_Make s1 h9 fun r8 h10 =>
  ∃ (sA5 : Option Addr) (sL5 : Nat) (sC5 : Nat) (s2 : ByteArray) (n5 : Int), r8 = .tuple #[.slice sA5 sL5 sC5, .string s2, .int .i64 n5] ∧
  C.boleref13_Make s1 h10 fun r9 h11 =>
  ∃ (sA6 : Option Addr) (sL6 : Nat) (sC6 : Nat) (s3 : ByteArray) (n6 : Int), r9 = .tuple #[.slice sA6 sL6 sC6, .string s3, .int .i64 n6] ∧
  C.path_Clean s1 h11 fun r10 h12 =>
  ∃ (s4 : ByteArray) (n7 : Int), r10 = .tuple #[.string s4, .int .i64 n7] ∧
  C.boleref13_Clean s1 h12 fun r11 h13 =>
  ∃ (s5 : ByteArray) (n8 : Int), r11 = .tuple #[.string s5, .int .i64 n8] ∧
  C.bolelaw13_same sA5 sL5 sC5 sA6 sL6 sC6 h13 fun r12 h14 =>
  ∃ (b6 : Bool), r12 = .bool b6 ∧
  bif (!b6) then (
  K (.bool false) h14) else (
  bif (!(s2.toList == s3.toList)) then (
  K (.bool false) h14) else (
  bif (n5 != n6) then (
  K (.bool false) h14) else (
  bif (!(s4.toList == s5.toList)) then (
  K (.bool false) h14) else (
  bif (n7 != n8) then (
  K (.bool false) h14) else (
  C.path_Name s1 h14 fun r13 h15 =>
  ∃ (b7 : Bool), r13 = .bool b7 ∧
  C.boleref13_Name s1 h15 fun r14 h16 =>
  ∃ (b8 : Bool), r14 = .bool b8 ∧
  bif (!(b7 == b8)) then (
  K (.bool false) h16) else (
  bolelaw13_PathExact.k2 partsA1 partsL1 partsC1 h16 K))))))
def bolelaw13_PathExact (s1 : ByteArray) (partsA1 : Option Addr) (partsL1 : Nat) (partsC1 : Nat) (K : Value → Heap → Prop) (h1 : Heap) : Prop :=
  C.bolelaw13_known  h1 fun r1 h2 =>
  ∃ (b1 : Bool), r1 = .bool b1 ∧
  bif (!b1) then (
  K (.bool false) h2) else (
  C.path_Parse s1 h2 fun r2 h3 =>
  ∃ (sA1 : Option Addr) (sL1 : Nat) (sC1 : Nat) (n1 : Int), r2 = .tuple #[.slice sA1 sL1 sC1, .int .i64 n1] ∧
  C.boleref13_Parse s1 h3 fun r3 h4 =>
  ∃ (sA2 : Option Addr) (sL2 : Nat) (sC2 : Nat) (n2 : Int), r3 = .tuple #[.slice sA2 sL2 sC2, .int .i64 n2] ∧
  C.path_Text s1 h4 fun r4 h5 =>
  ∃ (sA3 : Option Addr) (sL3 : Nat) (sC3 : Nat) (b2 : Bool) (n3 : Int), r4 = .tuple #[.slice sA3 sL3 sC3, .bool b2, .int .i64 n3] ∧
  C.boleref13_Text s1 h5 fun r5 h6 =>
  ∃ (sA4 : Option Addr) (sL4 : Nat) (sC4 : Nat) (b3 : Bool) (n4 : Int), r5 = .tuple #[.slice sA4 sL4 sC4, .bool b3, .int .i64 n4] ∧
  C.bolelaw13_same sA1 sL1 sC1 sA2 sL2 sC2 h6 fun r6 h7 =>
  ∃ (b4 : Bool), r6 = .bool b4 ∧
  bif (!b4) then (
  K (.bool false) h7) else (
  bif (n1 != n2) then (
  K (.bool false) h7) else (
  C.bolelaw13_same sA3 sL3 sC3 sA4 sL4 sC4 h7 fun r7 h8 =>
  ∃ (b5 : Bool), r7 = .bool b5 ∧
  bif (!b5) then (
  K (.bool false) h8) else (
  bif (!(b2 == b3)) then (
  K (.bool false) h8) else (
  bif (n3 != n4) then (
  K (.bool false) h8) else (
  bolelaw13_PathExact.k1 s1 partsA1 partsL1 partsC1 h8 K))))))
def bolelaw13_PathExact.lo : Nat → List Nat × List (Nat × Ty) := fun n => match n with | _ => ([], [])
def bolelaw13_PathExact.od : Nat → Od := fun n => match n with | _ => .nil
theorem bolelaw13_PathExact.eq (s1 : ByteArray) (partsA1 : Option Addr) (partsL1 : Nat) (partsC1 : Nat) (K : Value → Heap → Prop) (h : Heap) : fnX (cx bolelaw13_PathExact.lo bolelaw13_PathExact.od) Try.f4 (Try.f4.body.getD .skip) [.string s1, .slice partsA1 partsL1 partsC1] K h = bolelaw13_PathExact s1 partsA1 partsL1 partsC1 K h := by kernel_rfl
theorem bolelaw13_PathExact.chk : fnOk (cx bolelaw13_PathExact.lo bolelaw13_PathExact.od) Try.f4 (Try.f4.body.getD .skip) 2 = true := by kernel_rfl
theorem bolelaw13_PathExact.ok {s1 : ByteArray} {partsA1 : Option Addr} {partsL1 : Nat} {partsC1 : Nat} {K : Value → Heap → Prop} {h : Heap} (hx : bolelaw13_PathExact s1 partsA1 partsL1 partsC1 K h) : C.bolelaw13_PathExact s1 partsA1 partsL1 partsC1 h K :=
  fn_to (cxOk _ _) Try.func4 (by kernel_rfl) bolelaw13_PathExact.chk (by rw [bolelaw13_PathExact.eq]; exact hx)

-- 5
def bolelaw13_PathBack.k1 (n1 : Int) (may1 : Bool) (long1 : Bool) (n2 : Int) (h3 : Heap) (I1 : Int → Bool → Bool → Int → Heap → Prop) (M1 : Int → Bool → Bool → Int → Heap → Nat) (s1 : ByteArray) (may2 : Bool) (h5 : Heap) (K : Value → Heap → Prop) : Prop :=
  bif long1 then (
  I1 (IntKind.wrap .i64 ((IntKind.wrap .i64 (n1 + 1)) + (s1.size : Int))) may2 true (IntKind.wrap .i64 (n2 + 1)) h5 ∧ M1 (IntKind.wrap .i64 ((IntKind.wrap .i64 (n1 + 1)) + (s1.size : Int))) may2 true (IntKind.wrap .i64 (n2 + 1)) h5 < M1 n1 may1 long1 n2 h3) else (
  I1 (IntKind.wrap .i64 ((IntKind.wrap .i64 (n1 + 1)) + (s1.size : Int))) may2 (decide ((s1.size : Int) > 27)) (IntKind.wrap .i64 (n2 + 1)) h5 ∧ M1 (IntKind.wrap .i64 ((IntKind.wrap .i64 (n1 + 1)) + (s1.size : Int))) may2 (decide ((s1.size : Int) > 27)) (IntKind.wrap .i64 (n2 + 1)) h5 < M1 n1 may1 long1 n2 h3)
def bolelaw13_PathBack.k2 (partsA1 : Option Addr) (partsL1 : Nat) (partsC1 : Nat) (s2 : ByteArray) (h17 : Heap) (K : Value → Heap → Prop) : Prop :=
  C.path_Make s2 h17 fun r14 h18 =>
  ∃ (sA3 : Option Addr) (sL3 : Nat) (sC3 : Nat) (s3 : ByteArray) (n12 : Int), r14 = .tuple #[.slice sA3 sL3 sC3, .string s3, .int .i64 n12] ∧
  bif ((partsL1 : Int) == 0) then (
  C.bolelaw13_num n12 h18 fun r15 h19 =>
  ∃ (n13 : Int), r15 = .int .i64 n13 ∧
  bif (n13 == 0) then (
  bif ((sL3 : Int) == 0) then (
  K (.bool (s3.toList == (mkStr []).toList)) h19) else (
  K (.bool false) h19)) else (
  K (.bool false) h19)) else (
  (0 ≤ (IntKind.wrap .i64 ((partsL1 : Int) - 1)) ∧ (IntKind.wrap .i64 ((partsL1 : Int) - 1)) < (partsL1 : Int)) ∧
  onSome partsA1 fun p2 =>
  ∃ (s4 : ByteArray), cellOf h18 (Addr.add p2 (Int.toNat (IntKind.wrap .i64 ((partsL1 : Int) - 1)))) = some (.string s4) ∧
  bif (s4.toList == (mkStr [46, 46]).toList) then (
  C.bolelaw13_num n12 h18 fun r16 h20 =>
  ∃ (n14 : Int), r16 = .int .i64 n14 ∧
  bif (n14 == 1) then (
  bif ((sL3 : Int) == 0) then (
  K (.bool (s3.toList == (mkStr []).toList)) h20) else (
  K (.bool false) h20)) else (
  K (.bool false) h20)) else (
  C.bolelaw13_num n12 h18 fun r17 h21 =>
  ∃ (n15 : Int), r17 = .int .i64 n15 ∧
  bif (n15 == 0) then (
  (0 ≤ (IntKind.wrap .i64 ((partsL1 : Int) - 1)) ∧ (IntKind.wrap .i64 ((partsL1 : Int) - 1)) ≤ (partsC1 : Int)) ∧
  C.bolelaw13_same sA3 sL3 sC3 partsA1 (Int.toNat (IntKind.wrap .i64 ((partsL1 : Int) - 1))) partsC1 h21 fun r18 h22 =>
  ∃ (b6 : Bool), r18 = .bool b6 ∧
  bif b6 then (
  (0 ≤ (IntKind.wrap .i64 ((partsL1 : Int) - 1)) ∧ (IntKind.wrap .i64 ((partsL1 : Int) - 1)) < (partsL1 : Int)) ∧
  onSome partsA1 fun p3 =>
  ∃ (s5 : ByteArray), cellOf h22 (Addr.add p3 (Int.toNat (IntKind.wrap .i64 ((partsL1 : Int) - 1)))) = some (.string s5) ∧
  K (.bool (s3.toList == s5.toList)) h22) else (
  K (.bool false) h22)) else (
  K (.bool false) h21)))
def bolelaw13_PathBack (partsA1 : Option Addr) (partsL1 : Nat) (partsC1 : Nat) (K : Value → Heap → Prop) (h1 : Heap) : Prop :=
  C.bolelaw13_known  h1 fun r1 h2 =>
  ∃ (b1 : Bool), r1 = .bool b1 ∧
  bif (!b1) then (
  K (.bool false) h2) else (
  ∃ (I1 : Int → Bool → Bool → Int → Heap → Prop) (M1 : Int → Bool → Bool → Int → Heap → Nat), I1 0 true (decide ((partsL1 : Int) > 32)) 0 h2 ∧
  ∀ (n1 : Int) (may1 : Bool) (long1 : Bool) (n2 : Int), ∀ h3 : Heap, I1 n1 may1 long1 n2 h3 →
  bif (decide (n2 < (partsL1 : Int))) then (
  (0 ≤ n2 ∧ n2 < (partsL1 : Int)) ∧
  onSome partsA1 fun p1 =>
  ∃ (s1 : ByteArray), cellOf h3 (Addr.add p1 (Int.toNat n2)) = some (.string s1) ∧
  bif (!(s1.toList == (mkStr [46, 46]).toList)) then (
  C.path_Name s1 h3 fun r2 h4 =>
  ∃ (b2 : Bool), r2 = .bool b2 ∧
  bif (!b2) then (
  bolelaw13_PathBack.k1 n1 may1 long1 n2 h3 I1 M1 s1 false h4 K) else (
  bolelaw13_PathBack.k1 n1 may1 long1 n2 h3 I1 M1 s1 may1 h4 K)) else (
  bolelaw13_PathBack.k1 n1 may1 long1 n2 h3 I1 M1 s1 may1 h3 K)) else (
  C.path_Join partsA1 partsL1 partsC1 h3 fun r3 h6 =>
  ∃ (s2 : ByteArray) (n3 : Int), r3 = .tuple #[.string s2, .int .i64 n3] ∧
  C.bolelaw13_num n3 h6 fun r4 h7 =>
  ∃ (n4 : Int), r4 = .int .i64 n4 ∧
  bif (n4 != 0) then (
  bif (s2.toList == (mkStr []).toList) then (
  C.bolelaw13_num n3 h7 fun r5 h8 =>
  ∃ (n5 : Int), r5 = .int .i64 n5 ∧
  bif (n5 == 1) then (
  bif (!may1) then (
  K (.bool true) h8) else (
  C.bolelaw13_num n3 h8 fun r6 h9 =>
  ∃ (n6 : Int), r6 = .int .i64 n6 ∧
  bif (n6 == 130) then (
  K (.bool long1) h9) else (
  K (.bool false) h9))) else (
  C.bolelaw13_num n3 h8 fun r7 h10 =>
  ∃ (n7 : Int), r7 = .int .i64 n7 ∧
  bif (n7 == 130) then (
  K (.bool long1) h10) else (
  K (.bool false) h10))) else (
  K (.bool false) h7)) else (
  C.path_Parse s2 h7 fun r8 h11 =>
  ∃ (sA1 : Option Addr) (sL1 : Nat) (sC1 : Nat) (n8 : Int), r8 = .tuple #[.slice sA1 sL1 sC1, .int .i64 n8] ∧
  C.path_Text s2 h11 fun r9 h12 =>
  ∃ (sA2 : Option Addr) (sL2 : Nat) (sC2 : Nat) (b3 : Bool) (n9 : Int), r9 = .tuple #[.slice sA2 sL2 sC2, .bool b3, .int .i64 n9] ∧
  bif (!may1) then (
  K (.bool false) h12) else (
  bif long1 then (
  K (.bool false) h12) else (
  bif ((s2.size : Int) != (if (1 : Int) > n1 then 1 else n1)) then (
  K (.bool false) h12) else (
  C.bolelaw13_num n8 h12 fun r10 h13 =>
  ∃ (n10 : Int), r10 = .int .i64 n10 ∧
  bif (n10 != 0) then (
  K (.bool false) h13) else (
  C.bolelaw13_same sA1 sL1 sC1 partsA1 partsL1 partsC1 h13 fun r11 h14 =>
  ∃ (b4 : Bool), r11 = .bool b4 ∧
  bif (!b4) then (
  K (.bool false) h14) else (
  C.bolelaw13_num n9 h14 fun r12 h15 =>
  ∃ (n11 : Int), r12 = .int .i64 n11 ∧
  bif (n11 != 0) then (
  K (.bool false) h15) else (
  bif (!b3) then (
  K (.bool false) h15) else (
  C.bolelaw13_same sA2 sL2 sC2 partsA1 partsL1 partsC1 h15 fun r13 h16 =>
  ∃ (b5 : Bool), r13 = .bool b5 ∧
  bif (!b5) then (
  K (.bool false) h16) else (
  bolelaw13_PathBack.k2 partsA1 partsL1 partsC1 s2 h16 K)))))))))))
def bolelaw13_PathBack.lo : Nat → List Nat × List (Nat × Ty) := fun n => match n with | 6 => ([0, 23, 24], [(3, .int .i64), (4, .bool), (5, .bool), (25, .int .i64)]) | _ => ([], [])
def bolelaw13_PathBack.od : Nat → Od := fun n => match n with | _ => .nil
theorem bolelaw13_PathBack.eq (partsA1 : Option Addr) (partsL1 : Nat) (partsC1 : Nat) (K : Value → Heap → Prop) (h : Heap) : fnX (cx bolelaw13_PathBack.lo bolelaw13_PathBack.od) Try.f5 (Try.f5.body.getD .skip) [.slice partsA1 partsL1 partsC1] K h = bolelaw13_PathBack partsA1 partsL1 partsC1 K h := by kernel_rfl
theorem bolelaw13_PathBack.chk : fnOk (cx bolelaw13_PathBack.lo bolelaw13_PathBack.od) Try.f5 (Try.f5.body.getD .skip) 1 = true := by kernel_rfl
theorem bolelaw13_PathBack.ok {partsA1 : Option Addr} {partsL1 : Nat} {partsC1 : Nat} {K : Value → Heap → Prop} {h : Heap} (hx : bolelaw13_PathBack partsA1 partsL1 partsC1 K h) : C.bolelaw13_PathBack partsA1 partsL1 partsC1 h K :=
  fn_to (cxOk _ _) Try.func5 (by kernel_rfl) bolelaw13_PathBack.chk (by rw [bolelaw13_PathBack.eq]; exact hx)

-- 6
def bolelaw13_PathSlashes.k3 (sA2 : Option Addr) (sL2 : Nat) (sC2 : Nat) (s2 : ByteArray) (n5 : Int) (s4 : ByteArray) (h18 : Heap) (K : Value → Heap → Prop) : Prop :=
  C.path_Make s4 h18 fun r10 h19 =>
  ∃ (sA5 : Option Addr) (sL5 : Nat) (sC5 : Nat) (s5 : ByteArray) (n11 : Int), r10 = .tuple #[.slice sA5 sL5 sC5, .string s5, .int .i64 n11] ∧
  C.bolelaw13_dotted s4 h19 fun r11 h20 =>
  ∃ (b5 : Bool), r11 = .bool b5 ∧
  bif b5 then (
  C.bolelaw13_num n11 h20 fun r12 h21 =>
  ∃ (n12 : Int), r12 = .int .i64 n12 ∧
  bif (n12 == 1) then (
  bif ((sL5 : Int) == 0) then (
  K (.bool (s5.toList == (mkStr []).toList)) h21) else (
  K (.bool false) h21)) else (
  K (.bool false) h21)) else (
  C.bolelaw13_num n5 h20 fun r13 h22 =>
  ∃ (n13 : Int), r13 = .int .i64 n13 ∧
  bif (n13 == 1) then (
  C.bolelaw13_num n11 h22 fun r14 h23 =>
  ∃ (n14 : Int), r14 = .int .i64 n14 ∧
  K (.bool (n14 == 1)) h23) else (
  bif (n11 == n5) then (
  C.bolelaw13_same sA5 sL5 sC5 sA2 sL2 sC2 h22 fun r15 h24 =>
  ∃ (b6 : Bool), r15 = .bool b6 ∧
  bif b6 then (
  K (.bool (s5.toList == s2.toList)) h24) else (
  K (.bool false) h24)) else (
  K (.bool false) h22)))
def bolelaw13_PathSlashes.k2 (sA1 : Option Addr) (sL1 : Nat) (sC1 : Nat) (sA2 : Option Addr) (sL2 : Nat) (sC2 : Nat) (s2 : ByteArray) (n5 : Int) (s4 : ByteArray) (h14 : Heap) (K : Value → Heap → Prop) : Prop :=
  C.path_Parse s4 h14 fun r7 h15 =>
  ∃ (sA4 : Option Addr) (sL4 : Nat) (sC4 : Nat) (n9 : Int), r7 = .tuple #[.slice sA4 sL4 sC4, .int .i64 n9] ∧
  C.bolelaw13_num n9 h15 fun r8 h16 =>
  ∃ (n10 : Int), r8 = .int .i64 n10 ∧
  bif (n10 != 0) then (
  K (.bool false) h16) else (
  C.bolelaw13_same sA4 sL4 sC4 sA1 sL1 sC1 h16 fun r9 h17 =>
  ∃ (b4 : Bool), r9 = .bool b4 ∧
  bif (!b4) then (
  K (.bool false) h17) else (
  bolelaw13_PathSlashes.k3 sA2 sL2 sC2 s2 n5 s4 h17 K))
def bolelaw13_PathSlashes.k1 (sA1 : Option Addr) (sL1 : Nat) (sC1 : Nat) (sA2 : Option Addr) (sL2 : Nat) (sC2 : Nat) (s2 : ByteArray) (n5 : Int) (s3 : ByteArray) (n6 : Int) (h8 : Heap) (I1 : ByteArray → Int → Heap → Prop) (M1 : ByteArray → Int → Heap → Nat) (slashesA1 : Option Addr) (slashesL1 : Nat) (h11 : Heap) (more1 : ByteArray) (K : Value → Heap → Prop) : Prop :=
  ∃ (n7 : Int), cellOf h11 (Addr.add ⟨h8.size, 0, none⟩ 0) = some (.int .i64 n7) ∧
  if (IntKind.wrap .u64 ((slashesL1 : Int))) = 0 then False else
  (0 ≤ (IntKind.wrap .i64 ((Int.tmod (IntKind.wrap .u64 (n7)) (IntKind.wrap .u64 ((slashesL1 : Int)))))) ∧ (IntKind.wrap .i64 ((Int.tmod (IntKind.wrap .u64 (n7)) (IntKind.wrap .u64 ((slashesL1 : Int)))))) < (slashesL1 : Int)) ∧
  onSome slashesA1 fun p2 =>
  ∃ (n8 : Int), cellOf h11 (Addr.add p2 (Int.toNat (IntKind.wrap .i64 ((Int.tmod (IntKind.wrap .u64 (n7)) (IntKind.wrap .u64 ((slashesL1 : Int)))))))) = some (.int .i64 n8) ∧
  bif (decide ((IntKind.wrap .i64 ((s3.size : Int) + (more1.size : Int))) > 1024)) then (
  bolelaw13_PathSlashes.k2 sA1 sL1 sC1 sA2 sL2 sC2 s2 n5 s3 h11 K) else (
  (0 ≤ (IntKind.wrap .i64 (n8 + 1)) ∧ (IntKind.wrap .i64 (n8 + 1)) ≤ (s3.size : Int)) ∧
  (((ByteArray.extract s3 0 (Int.toNat (IntKind.wrap .i64 (n8 + 1)))).size + more1.size : Nat) : Int) ≤ 9223372036854775807 ∧
  (0 ≤ (IntKind.wrap .i64 (n8 + 1)) ∧ (IntKind.wrap .i64 (n8 + 1)) ≤ (s3.size : Int)) ∧
  ((((ByteArray.extract s3 0 (Int.toNat (IntKind.wrap .i64 (n8 + 1)))) ++ more1).size + (ByteArray.extract s3 (Int.toNat (IntKind.wrap .i64 (n8 + 1))) s3.size).size : Nat) : Int) ≤ 9223372036854775807 ∧
  I1 (((ByteArray.extract s3 0 (Int.toNat (IntKind.wrap .i64 (n8 + 1)))) ++ more1) ++ (ByteArray.extract s3 (Int.toNat (IntKind.wrap .i64 (n8 + 1))) s3.size)) (IntKind.wrap .i64 (n6 + 1)) h11 ∧ M1 (((ByteArray.extract s3 0 (Int.toNat (IntKind.wrap .i64 (n8 + 1)))) ++ more1) ++ (ByteArray.extract s3 (Int.toNat (IntKind.wrap .i64 (n8 + 1))) s3.size)) (IntKind.wrap .i64 (n6 + 1)) h11 < M1 s3 n6 h8)
def bolelaw13_PathSlashes (s1 : ByteArray) (putsA1 : Option Addr) (putsL1 : Nat) (putsC1 : Nat) (K : Value → Heap → Prop) (h1 : Heap) : Prop :=
  C.bolelaw13_known  h1 fun r1 h2 =>
  ∃ (b1 : Bool), r1 = .bool b1 ∧
  bif (!b1) then (
  K (.bool false) h2) else (
  C.path_Parse s1 h2 fun r2 h3 =>
  ∃ (sA1 : Option Addr) (sL1 : Nat) (sC1 : Nat) (n1 : Int), r2 = .tuple #[.slice sA1 sL1 sC1, .int .i64 n1] ∧
  C.bolelaw13_num n1 h3 fun r3 h4 =>
  ∃ (n2 : Int), r3 = .int .i64 n2 ∧
  bif (n2 != 0) then (
  bif ((sL1 : Int) == 0) then (
  C.bolelaw13_num n1 h4 fun r4 h5 =>
  ∃ (n3 : Int), r4 = .int .i64 n3 ∧
  bif (n3 == 1) then (
  K (.bool true) h5) else (
  C.bolelaw13_num n1 h5 fun r5 h6 =>
  ∃ (n4 : Int), r5 = .int .i64 n4 ∧
  K (.bool (n4 == 130)) h6)) else (
  K (.bool false) h4)) else (
  C.path_Make s1 h4 fun r6 h7 =>
  ∃ (sA2 : Option Addr) (sL2 : Nat) (sC2 : Nat) (s2 : ByteArray) (n5 : Int), r6 = .tuple #[.slice sA2 sL2 sC2, .string s2, .int .i64 n5] ∧
  ∃ (I1 : ByteArray → Int → Heap → Prop) (M1 : ByteArray → Int → Heap → Nat), I1 s1 0 h7 ∧
  ∀ (s3 : ByteArray) (n6 : Int), ∀ h8 : Heap, I1 s3 n6 h8 →
  bif (decide (n6 < (putsL1 : Int))) then (
  (0 ≤ n6 ∧ n6 < (putsL1 : Int)) ∧
  onSome putsA1 fun p1 =>
  ∃ cs1 : List Value, List.length cs1 = 2 ∧ Cells h8 (Addr.add p1 ((Int.toNat n6) * 2)) cs1 ∧
  NewRow z60 60 cs1 2 h8 fun h10 =>
  ∃ (I2 : Option Addr → Nat → Nat → Int → Heap → Prop) (M2 : Option Addr → Nat → Nat → Int → Heap → Nat), I2 none 0 0 0 h10 ∧
  ∀ (slashesA1 : Option Addr) (slashesL1 : Nat) (slashesC1 : Nat) (i1 : Int), ∀ h11 : Heap, I2 slashesA1 slashesL1 slashesC1 i1 h11 →
  bif (decide (i1 < (s3.size : Int))) then (
  (0 ≤ i1 ∧ i1 < (s3.size : Int)) ∧
  ∃ b2 : UInt8, s3.toList[Int.toNat i1]? = some b2 ∧
  bif (((UInt8.toNat b2 : Nat) : Int) == 47) then (
  New [.int .i64 i1] 3 h11 fun h12 =>
  ∃ new1 : List Value, List.length new1 = 1 * 1 ∧ SlCells h12 (some ⟨h11.size, 0, none⟩) new1 ∧ (∀ v ∈ new1, v.oneCell' = true) ∧
  AppendP ti3 3 slashesA1 slashesL1 slashesC1 1 new1 h12 fun sA3 sL3 sC3 h13 =>
  I2 sA3 sL3 sC3 (IntKind.wrap .i64 (i1 + 1)) h13 ∧ M2 sA3 sL3 sC3 (IntKind.wrap .i64 (i1 + 1)) h13 < M2 slashesA1 slashesL1 slashesC1 i1 h11) else (
  I2 slashesA1 slashesL1 slashesC1 (IntKind.wrap .i64 (i1 + 1)) h11 ∧ M2 slashesA1 slashesL1 slashesC1 (IntKind.wrap .i64 (i1 + 1)) h11 < M2 slashesA1 slashesL1 slashesC1 i1 h11)) else (
  ∃ (b3 : Bool), cellOf h11 (Addr.add ⟨h8.size, 0, none⟩ 1) = some (.bool b3) ∧
  bif b3 then (
  bolelaw13_PathSlashes.k1 sA1 sL1 sC1 sA2 sL2 sC2 s2 n5 s3 n6 h8 I1 M1 slashesA1 slashesL1 h11 (mkStr [46, 47]) K) else (
  bolelaw13_PathSlashes.k1 sA1 sL1 sC1 sA2 sL2 sC2 s2 n5 s3 n6 h8 I1 M1 slashesA1 slashesL1 h11 (mkStr [47]) K))) else (
  bolelaw13_PathSlashes.k2 sA1 sL1 sC1 sA2 sL2 sC2 s2 n5 s3 h8 K)))
def bolelaw13_PathSlashes.lo : Nat → List Nat × List (Nat × Ty) := fun n => match n with | 8 => ([5, 7, 8, 9, 50, 51], [(0, .str), (52, .int .i64)]) | 12 => ([0, 5, 7, 8, 9, 11, 50, 51, 52], [(12, .slice), (13, .int .i64)]) | _ => ([], [])
def bolelaw13_PathSlashes.od : Nat → Od := fun n => match n with | 21 => (.op 0 [] (.op 1 [] (.op 2 [] (.op 3 [] (.op 4 [] (.op 5 [] (.op 6 [] (.op 7 [] (.op 8 [] (.op 9 [] .nil)))))))))) | _ => .nil
theorem bolelaw13_PathSlashes.eq (s1 : ByteArray) (putsA1 : Option Addr) (putsL1 : Nat) (putsC1 : Nat) (K : Value → Heap → Prop) (h : Heap) : fnX (cx bolelaw13_PathSlashes.lo bolelaw13_PathSlashes.od) Try.f6 (Try.f6.body.getD .skip) [.string s1, .slice putsA1 putsL1 putsC1] K h = bolelaw13_PathSlashes s1 putsA1 putsL1 putsC1 K h := by kernel_rfl
theorem bolelaw13_PathSlashes.chk : fnOk (cx bolelaw13_PathSlashes.lo bolelaw13_PathSlashes.od) Try.f6 (Try.f6.body.getD .skip) 2 = true := by kernel_rfl
theorem bolelaw13_PathSlashes.ok {s1 : ByteArray} {putsA1 : Option Addr} {putsL1 : Nat} {putsC1 : Nat} {K : Value → Heap → Prop} {h : Heap} (hx : bolelaw13_PathSlashes s1 putsA1 putsL1 putsC1 K h) : C.bolelaw13_PathSlashes s1 putsA1 putsL1 putsC1 h K :=
  fn_to (cxOk _ _) Try.func6 (by kernel_rfl) bolelaw13_PathSlashes.chk (by rw [bolelaw13_PathSlashes.eq]; exact hx)

-- 7
def bolelaw13_PathCleans.k1 (s1 : ByteArray) (sA1 : Option Addr) (sL1 : Nat) (sC1 : Nat) (s2 : ByteArray) (h6 : Heap) (K : Value → Heap → Prop) : Prop :=
  ∃ (I1 : Option Addr → Nat → Nat → Int → Heap → Prop) (M1 : Option Addr → Nat → Nat → Int → Heap → Nat), I1 none 0 0 0 h6 ∧
  ∀ (rowA1 : Option Addr) (rowL1 : Nat) (rowC1 : Nat) (n4 : Int), ∀ h7 : Heap, I1 rowA1 rowL1 rowC1 n4 h7 →
  bif (decide (n4 < (sL1 : Int))) then (
  (0 ≤ n4 ∧ n4 < (sL1 : Int)) ∧
  onSome sA1 fun p1 =>
  ∃ (s3 : ByteArray), cellOf h7 (Addr.add p1 (Int.toNat n4)) = some (.string s3) ∧
  bif (!(s3.toList == (mkStr [46, 46]).toList)) then (
  New [.string s3] 9 h7 fun h8 =>
  ∃ new1 : List Value, List.length new1 = 1 * 1 ∧ SlCells h8 (some ⟨h7.size, 0, none⟩) new1 ∧ (∀ v ∈ new1, v.oneCell' = true) ∧
  AppendP ti9 9 rowA1 rowL1 rowC1 1 new1 h8 fun sA2 sL2 sC2 h9 =>
  I1 sA2 sL2 sC2 (IntKind.wrap .i64 (n4 + 1)) h9 ∧ M1 sA2 sL2 sC2 (IntKind.wrap .i64 (n4 + 1)) h9 < M1 rowA1 rowL1 rowC1 n4 h7) else (
  bif (decide ((rowL1 : Int) > 0)) then (
  (0 ≤ (IntKind.wrap .i64 ((rowL1 : Int) - 1)) ∧ (IntKind.wrap .i64 ((rowL1 : Int) - 1)) ≤ (rowC1 : Int)) ∧
  I1 rowA1 (Int.toNat (IntKind.wrap .i64 ((rowL1 : Int) - 1))) rowC1 (IntKind.wrap .i64 (n4 + 1)) h7 ∧ M1 rowA1 (Int.toNat (IntKind.wrap .i64 ((rowL1 : Int) - 1))) rowC1 (IntKind.wrap .i64 (n4 + 1)) h7 < M1 rowA1 rowL1 rowC1 n4 h7) else (
  I1 rowA1 rowL1 rowC1 (IntKind.wrap .i64 (n4 + 1)) h7 ∧ M1 rowA1 rowL1 rowC1 (IntKind.wrap .i64 (n4 + 1)) h7 < M1 rowA1 rowL1 rowC1 n4 h7))) else (
  C.path_Parse s2 h7 fun r5 h10 =>
  ∃ (sA3 : Option Addr) (sL3 : Nat) (sC3 : Nat) (n5 : Int), r5 = .tuple #[.slice sA3 sL3 sC3, .int .i64 n5] ∧
  C.path_Clean s2 h10 fun r6 h11 =>
  ∃ (s4 : ByteArray) (n6 : Int), r6 = .tuple #[.string s4, .int .i64 n6] ∧
  C.path_Join sA1 sL1 sC1 h11 fun r7 h12 =>
  ∃ (s5 : ByteArray) (n7 : Int), r7 = .tuple #[.string s5, .int .i64 n7] ∧
  C.path_Parse s5 h12 fun r8 h13 =>
  ∃ (sA4 : Option Addr) (sL4 : Nat) (sC4 : Nat) (n8 : Int), r8 = .tuple #[.slice sA4 sL4 sC4, .int .i64 n8] ∧
  C.bolelaw13_num n5 h13 fun r9 h14 =>
  ∃ (n9 : Int), r9 = .int .i64 n9 ∧
  bif (n9 == 0) then (
  C.bolelaw13_same sA3 sL3 sC3 rowA1 rowL1 rowC1 h14 fun r10 h15 =>
  ∃ (b2 : Bool), r10 = .bool b2 ∧
  bif b2 then (
  C.bolelaw13_num n6 h15 fun r11 h16 =>
  ∃ (n10 : Int), r11 = .int .i64 n10 ∧
  bif (n10 == 0) then (
  bif (s4.toList == s2.toList) then (
  bif (decide ((s2.size : Int) ≤ (s1.size : Int))) then (
  C.bolelaw13_num n7 h16 fun r12 h17 =>
  ∃ (n11 : Int), r12 = .int .i64 n11 ∧
  bif (n11 == 0) then (
  bif (decide ((s5.size : Int) ≤ (s1.size : Int))) then (
  C.bolelaw13_num n8 h17 fun r13 h18 =>
  ∃ (n12 : Int), r13 = .int .i64 n12 ∧
  bif (n12 == 0) then (
  C.bolelaw13_same sA4 sL4 sC4 sA1 sL1 sC1 h18 fun r14 h19 =>
  ∃ (b3 : Bool), r14 = .bool b3 ∧
  K (.bool b3) h19) else (
  K (.bool false) h18)) else (
  K (.bool false) h17)) else (
  K (.bool false) h17)) else (
  K (.bool false) h16)) else (
  K (.bool false) h16)) else (
  K (.bool false) h16)) else (
  K (.bool false) h15)) else (
  K (.bool false) h14))
def bolelaw13_PathCleans (s1 : ByteArray) (K : Value → Heap → Prop) (h1 : Heap) : Prop :=
  C.bolelaw13_known  h1 fun r1 h2 =>
  ∃ (b1 : Bool), r1 = .bool b1 ∧
  bif (!b1) then (
  K (.bool false) h2) else (
  C.path_Parse s1 h2 fun r2 h3 =>
  ∃ (sA1 : Option Addr) (sL1 : Nat) (sC1 : Nat) (n1 : Int), r2 = .tuple #[.slice sA1 sL1 sC1, .int .i64 n1] ∧
  C.path_Clean s1 h3 fun r3 h4 =>
  ∃ (s2 : ByteArray) (n2 : Int), r3 = .tuple #[.string s2, .int .i64 n2] ∧
  bif (n1 != n2) then (
  bif (n1 == n2) then (
  bif (s2.toList == (mkStr []).toList) then (
  K (.bool ((sL1 : Int) == 0)) h4) else (
  K (.bool false) h4)) else (
  K (.bool false) h4)) else (
  C.bolelaw13_num n1 h4 fun r4 h5 =>
  ∃ (n3 : Int), r4 = .int .i64 n3 ∧
  bif (n3 != 0) then (
  bif (n1 == n2) then (
  bif (s2.toList == (mkStr []).toList) then (
  K (.bool ((sL1 : Int) == 0)) h5) else (
  K (.bool false) h5)) else (
  K (.bool false) h5)) else (
  bolelaw13_PathCleans.k1 s1 sA1 sL1 sC1 s2 h5 K)))
def bolelaw13_PathCleans.lo : Nat → List Nat × List (Nat × Ty) := fun n => match n with | 9 => ([0, 3, 5, 50, 51], [(7, .slice), (52, .int .i64)]) | _ => ([], [])
def bolelaw13_PathCleans.od : Nat → Od := fun n => match n with | _ => .nil
theorem bolelaw13_PathCleans.eq (s1 : ByteArray) (K : Value → Heap → Prop) (h : Heap) : fnX (cx bolelaw13_PathCleans.lo bolelaw13_PathCleans.od) Try.f7 (Try.f7.body.getD .skip) [.string s1] K h = bolelaw13_PathCleans s1 K h := by kernel_rfl
theorem bolelaw13_PathCleans.chk : fnOk (cx bolelaw13_PathCleans.lo bolelaw13_PathCleans.od) Try.f7 (Try.f7.body.getD .skip) 1 = true := by kernel_rfl
theorem bolelaw13_PathCleans.ok {s1 : ByteArray} {K : Value → Heap → Prop} {h : Heap} (hx : bolelaw13_PathCleans s1 K h) : C.bolelaw13_PathCleans s1 h K :=
  fn_to (cxOk _ _) Try.func7 (by kernel_rfl) bolelaw13_PathCleans.chk (by rw [bolelaw13_PathCleans.eq]; exact hx)

-- 8
def bolelaw13_PathOwn (s1 : ByteArray) (t1 : ByteArray) (K : Value → Heap → Prop) (h1 : Heap) : Prop :=
  C.bolelaw13_known  h1 fun r1 h2 =>
  ∃ (b1 : Bool), r1 = .bool b1 ∧
  bif (!b1) then (
  K (.bool false) h2) else (
  New [.string s1, .string t1, .string s1] 9 h2 fun h3 =>
  ∃ (I1 : Option Addr → Nat → Nat → Int → Heap → Prop) (M1 : Option Addr → Nat → Nat → Int → Heap → Nat), I1 none 0 0 0 h3 ∧
  ∀ (lA1 : Option Addr) (lL1 : Nat) (lC1 : Nat) (n1 : Int), ∀ h4 : Heap, I1 lA1 lL1 lC1 n1 h4 →
  bif (decide (n1 < (3 : Int))) then (
  (0 ≤ n1 ∧ n1 < (3 : Int)) ∧
  ∃ (s2 : ByteArray), cellOf h4 (Addr.add ⟨h2.size, 0, none⟩ (Int.toNat n1)) = some (.string s2) ∧
  C.path_Parse s2 h4 fun r2 h5 =>
  ∃ (sA1 : Option Addr) (sL1 : Nat) (sC1 : Nat) (n2 : Int), r2 = .tuple #[.slice sA1 sL1 sC1, .int .i64 n2] ∧
  C.path_Text s2 h5 fun r3 h6 =>
  ∃ (sA2 : Option Addr) (sL2 : Nat) (sC2 : Nat) (b2 : Bool) (n3 : Int), r3 = .tuple #[.slice sA2 sL2 sC2, .bool b2, .int .i64 n3] ∧
  C.path_Make s2 h6 fun r4 h7 =>
  ∃ (sA3 : Option Addr) (sL3 : Nat) (sC3 : Nat) (s3 : ByteArray) (n4 : Int), r4 = .tuple #[.slice sA3 sL3 sC3, .string s3, .int .i64 n4] ∧
  New [.slice sA1 sL1 sC1, .slice sA2 sL2 sC2, .slice sA3 sL3 sC3] 42 h7 fun h8 =>
  ∃ new1 : List Value, List.length new1 = 3 * 1 ∧ SlCells h8 (some ⟨h7.size, 0, none⟩) new1 ∧ (∀ v ∈ new1, v.oneCell' = true) ∧
  AppendP ti42 42 lA1 lL1 lC1 3 new1 h8 fun sA4 sL4 sC4 h9 =>
  I1 sA4 sL4 sC4 (IntKind.wrap .i64 (n1 + 1)) h9 ∧ M1 sA4 sL4 sC4 (IntKind.wrap .i64 (n1 + 1)) h9 < M1 lA1 lL1 lC1 n1 h4) else (
  ∃ (I2 : Option Addr → Nat → Nat → Int → Heap → Prop) (M2 : Option Addr → Nat → Nat → Int → Heap → Nat), I2 none 0 0 0 h4 ∧
  ∀ (wasA1 : Option Addr) (wasL1 : Nat) (wasC1 : Nat) (n5 : Int), ∀ h10 : Heap, I2 wasA1 wasL1 wasC1 n5 h10 →
  bif (decide (n5 < (lL1 : Int))) then (
  (0 ≤ n5 ∧ n5 < (lL1 : Int)) ∧
  onSome lA1 fun p1 =>
  ∃ (sA5 : Option Addr) (sL5 : Nat) (sC5 : Nat), cellOf h10 (Addr.add p1 (Int.toNat n5)) = some (.slice sA5 sL5 sC5) ∧
  New [] 9 h10 fun h11 =>
  ∃ new2 : List Value, List.length new2 = sL5 * 1 ∧ SlCells h11 sA5 new2 ∧ (∀ v ∈ new2, v.oneCell' = true) ∧
  AppendP ti9 9 (some ⟨h10.size, 0, none⟩) 0 0 sL5 new2 h11 fun sA6 sL6 sC6 h12 =>
  New [.slice sA6 sL6 sC6] 42 h12 fun h13 =>
  ∃ new3 : List Value, List.length new3 = 1 * 1 ∧ SlCells h13 (some ⟨h12.size, 0, none⟩) new3 ∧ (∀ v ∈ new3, v.oneCell' = true) ∧
  AppendP ti42 42 wasA1 wasL1 wasC1 1 new3 h13 fun sA7 sL7 sC7 h14 =>
  I2 sA7 sL7 sC7 (IntKind.wrap .i64 (n5 + 1)) h14 ∧ M2 sA7 sL7 sC7 (IntKind.wrap .i64 (n5 + 1)) h14 < M2 wasA1 wasL1 wasC1 n5 h10) else (
  ∃ (I3 : Int → Heap → Prop) (M3 : Int → Heap → Nat), I3 0 h10 ∧
  ∀ (i1 : Int), ∀ h15 : Heap, I3 i1 h15 →
  bif (decide (i1 < 3)) then (
  (0 ≤ i1 ∧ i1 < (wasL1 : Int)) ∧
  onSome wasA1 fun p2 =>
  ∃ (sA8 : Option Addr) (sL8 : Nat) (sC8 : Nat), cellOf h15 (Addr.add p2 (Int.toNat i1)) = some (.slice sA8 sL8 sC8) ∧
  (0 ≤ (IntKind.wrap .i64 (6 + i1)) ∧ (IntKind.wrap .i64 (6 + i1)) < (wasL1 : Int)) ∧
  onSome wasA1 fun p3 =>
  ∃ (sA9 : Option Addr) (sL9 : Nat) (sC9 : Nat), cellOf h15 (Addr.add p3 (Int.toNat (IntKind.wrap .i64 (6 + i1)))) = some (.slice sA9 sL9 sC9) ∧
  C.bolelaw13_same sA8 sL8 sC8 sA9 sL9 sC9 h15 fun r5 h16 =>
  ∃ (b3 : Bool), r5 = .bool b3 ∧
  bif (!b3) then (
  K (.bool false) h16) else (
  I3 (IntKind.wrap .i64 (i1 + 1)) h16 ∧ M3 (IntKind.wrap .i64 (i1 + 1)) h16 < M3 i1 h15)) else (
  ∃ (I4 : Int → Heap → Prop) (M4 : Int → Heap → Nat), I4 0 h15 ∧
  ∀ (n6 : Int), ∀ h17 : Heap, I4 n6 h17 →
  bif (decide (n6 < (lL1 : Int))) then (
  (0 ≤ n6 ∧ n6 < (lL1 : Int)) ∧
  onSome lA1 fun p4 =>
  ∃ (sA10 : Option Addr) (sL10 : Nat) (sC10 : Nat), cellOf h17 (Addr.add p4 (Int.toNat n6)) = some (.slice sA10 sL10 sC10) ∧
  ∃ (I5 : Int → Heap → Prop) (M5 : Int → Heap → Nat), I5 0 h17 ∧
  ∀ (n7 : Int), ∀ h18 : Heap, I5 n7 h18 →
  bif (decide (n7 < (sL10 : Int))) then (
  C.bolelaw13_mark n6 h18 fun r6 h19 =>
  ∃ (s4 : ByteArray), r6 = .string s4 ∧
  (0 ≤ n7 ∧ n7 < (sL10 : Int)) ∧
  onSome sA10 fun p5 =>
  Put (Addr.add p5 (Int.toNat n7)) (.string s4) h19 fun h20 =>
  I5 (IntKind.wrap .i64 (n7 + 1)) h20 ∧ M5 (IntKind.wrap .i64 (n7 + 1)) h20 < M5 n7 h18) else (
  I4 (IntKind.wrap .i64 (n6 + 1)) h18 ∧ M4 (IntKind.wrap .i64 (n6 + 1)) h18 < M4 n6 h17)) else (
  ∃ (I6 : Option Addr → Nat → Nat → Int → Heap → Prop) (M6 : Option Addr → Nat → Nat → Int → Heap → Nat), I6 none 0 0 0 h17 ∧
  ∀ (longsA1 : Option Addr) (longsL1 : Nat) (longsC1 : Nat) (n8 : Int), ∀ h21 : Heap, I6 longsA1 longsL1 longsC1 n8 h21 →
  bif (decide (n8 < (lL1 : Int))) then (
  (0 ≤ n8 ∧ n8 < (lL1 : Int)) ∧
  onSome lA1 fun p6 =>
  ∃ (sA11 : Option Addr) (sL11 : Nat) (sC11 : Nat), cellOf h21 (Addr.add p6 (Int.toNat n8)) = some (.slice sA11 sL11 sC11) ∧
  C.bolelaw13_mark n8 h21 fun r7 h22 =>
  ∃ (s5 : ByteArray), r7 = .string s5 ∧
  C.bolelaw13_mark n8 h22 fun r8 h23 =>
  ∃ (s6 : ByteArray), r8 = .string s6 ∧
  New [.string s5, .string s6] 9 h23 fun h24 =>
  ∃ new4 : List Value, List.length new4 = 2 * 1 ∧ SlCells h24 (some ⟨h23.size, 0, none⟩) new4 ∧ (∀ v ∈ new4, v.oneCell' = true) ∧
  AppendP ti9 9 sA11 sL11 sC11 2 new4 h24 fun sA12 sL12 sC12 h25 =>
  New [.slice sA12 sL12 sC12] 42 h25 fun h26 =>
  ∃ new5 : List Value, List.length new5 = 1 * 1 ∧ SlCells h26 (some ⟨h25.size, 0, none⟩) new5 ∧ (∀ v ∈ new5, v.oneCell' = true) ∧
  AppendP ti42 42 longsA1 longsL1 longsC1 1 new5 h26 fun sA13 sL13 sC13 h27 =>
  I6 sA13 sL13 sC13 (IntKind.wrap .i64 (n8 + 1)) h27 ∧ M6 sA13 sL13 sC13 (IntKind.wrap .i64 (n8 + 1)) h27 < M6 longsA1 longsL1 longsC1 n8 h21) else (
  ∃ (I7 : Int → Heap → Prop) (M7 : Int → Heap → Nat), I7 0 h21 ∧
  ∀ (n9 : Int), ∀ h28 : Heap, I7 n9 h28 →
  bif (decide (n9 < (longsL1 : Int))) then (
  (0 ≤ n9 ∧ n9 < (longsL1 : Int)) ∧
  onSome longsA1 fun p7 =>
  ∃ (sA14 : Option Addr) (sL14 : Nat) (sC14 : Nat), cellOf h28 (Addr.add p7 (Int.toNat n9)) = some (.slice sA14 sL14 sC14) ∧
  ∃ (I8 : Int → Heap → Prop) (M8 : Int → Heap → Nat), I8 0 h28 ∧
  ∀ (n10 : Int), ∀ h29 : Heap, I8 n10 h29 →
  bif (decide (n10 < (sL14 : Int))) then (
  (0 ≤ n10 ∧ n10 < (sL14 : Int)) ∧
  onSome sA14 fun p8 =>
  ∃ (s7 : ByteArray), cellOf h29 (Addr.add p8 (Int.toNat n10)) = some (.string s7) ∧
  C.bolelaw13_mark n9 h29 fun r9 h30 =>
  ∃ (s8 : ByteArray), r9 = .string s8 ∧
  bif (!(s7.toList == s8.toList)) then (
  K (.bool false) h30) else (
  (0 ≤ n9 ∧ n9 < (lL1 : Int)) ∧
  onSome lA1 fun p9 =>
  ∃ (sA15 : Option Addr) (sL15 : Nat) (sC15 : Nat), cellOf h30 (Addr.add p9 (Int.toNat n9)) = some (.slice sA15 sL15 sC15) ∧
  bif (decide (n10 < (sL15 : Int))) then (
  (0 ≤ n9 ∧ n9 < (lL1 : Int)) ∧
  onSome lA1 fun p10 =>
  ∃ (sA16 : Option Addr) (sL16 : Nat) (sC16 : Nat), cellOf h30 (Addr.add p10 (Int.toNat n9)) = some (.slice sA16 sL16 sC16) ∧
  (0 ≤ n10 ∧ n10 < (sL16 : Int)) ∧
  onSome sA16 fun p11 =>
  ∃ (s9 : ByteArray), cellOf h30 (Addr.add p11 (Int.toNat n10)) = some (.string s9) ∧
  bif (!(s9.toList == s7.toList)) then (
  K (.bool false) h30) else (
  I8 (IntKind.wrap .i64 (n10 + 1)) h30 ∧ M8 (IntKind.wrap .i64 (n10 + 1)) h30 < M8 n10 h29)) else (
  I8 (IntKind.wrap .i64 (n10 + 1)) h30 ∧ M8 (IntKind.wrap .i64 (n10 + 1)) h30 < M8 n10 h29))) else (
  I7 (IntKind.wrap .i64 (n9 + 1)) h29 ∧ M7 (IntKind.wrap .i64 (n9 + 1)) h29 < M7 n9 h28)) else (
  C.path_Parse s1 h28 fun r10 h31 =>
  ∃ (sA17 : Option Addr) (sL17 : Nat) (sC17 : Nat) (n11 : Int), r10 = .tuple #[.slice sA17 sL17 sC17, .int .i64 n11] ∧
  C.path_Text s1 h31 fun r11 h32 =>
  ∃ (sA18 : Option Addr) (sL18 : Nat) (sC18 : Nat) (b4 : Bool) (n12 : Int), r11 = .tuple #[.slice sA18 sL18 sC18, .bool b4, .int .i64 n12] ∧
  C.path_Make s1 h32 fun r12 h33 =>
  ∃ (sA19 : Option Addr) (sL19 : Nat) (sC19 : Nat) (s10 : ByteArray) (n13 : Int), r12 = .tuple #[.slice sA19 sL19 sC19, .string s10, .int .i64 n13] ∧
  (0 ≤ (0 : Int) ∧ 0 < (wasL1 : Int)) ∧
  onSome wasA1 fun p12 =>
  ∃ (sA20 : Option Addr) (sL20 : Nat) (sC20 : Nat), cellOf h33 (Addr.add p12 (Int.toNat 0)) = some (.slice sA20 sL20 sC20) ∧
  C.bolelaw13_same sA17 sL17 sC17 sA20 sL20 sC20 h33 fun r13 h34 =>
  ∃ (b5 : Bool), r13 = .bool b5 ∧
  bif b5 then (
  (0 ≤ (1 : Int) ∧ 1 < (wasL1 : Int)) ∧
  onSome wasA1 fun p13 =>
  ∃ (sA21 : Option Addr) (sL21 : Nat) (sC21 : Nat), cellOf h34 (Addr.add p13 (Int.toNat 1)) = some (.slice sA21 sL21 sC21) ∧
  C.bolelaw13_same sA18 sL18 sC18 sA21 sL21 sC21 h34 fun r14 h35 =>
  ∃ (b6 : Bool), r14 = .bool b6 ∧
  bif b6 then (
  (0 ≤ (2 : Int) ∧ 2 < (wasL1 : Int)) ∧
  onSome wasA1 fun p14 =>
  ∃ (sA22 : Option Addr) (sL22 : Nat) (sC22 : Nat), cellOf h35 (Addr.add p14 (Int.toNat 2)) = some (.slice sA22 sL22 sC22) ∧
  C.bolelaw13_same sA19 sL19 sC19 sA22 sL22 sC22 h35 fun r15 h36 =>
  ∃ (b7 : Bool), r15 = .bool b7 ∧
  K (.bool b7) h36) else (
  K (.bool false) h35)) else (
  K (.bool false) h34))))))))
def bolelaw13_PathOwn.lo : Nat → List Nat × List (Nat × Ty) := fun n => match n with | 6 => ([0, 6, 43, 44], [(5, .slice), (45, .int .i64)]) | 14 => ([0, 5, 73, 74], [(6, .slice), (75, .int .i64)]) | 19 => ([0, 5, 6], [(19, .int .i64)]) | 24 => ([0, 5, 6, 101, 102], [(103, .int .i64)]) | 27 => ([0, 5, 6, 20, 21, 101, 102, 103, 109], [(110, .int .i64)]) | 34 => ([0, 5, 6, 120, 121], [(23, .slice), (122, .int .i64)]) | 39 => ([0, 5, 6, 138, 139], [(140, .int .i64)]) | 42 => ([0, 5, 6, 26, 138, 139, 140, 145, 146], [(147, .int .i64)]) | _ => ([], [])
def bolelaw13_PathOwn.od : Nat → Od := fun n => match n with | 21 => (.op 0 [] (.op 1 [] (.op 2 [] (.op 3 [] (.op 4 [] (.op 5 [] (.op 6 [] (.op 7 [] (.op 8 [] (.op 9 [] (.op 10 [] .nil))))))))))) | _ => .nil
theorem bolelaw13_PathOwn.eq (s1 : ByteArray) (t1 : ByteArray) (K : Value → Heap → Prop) (h : Heap) : fnX (cx bolelaw13_PathOwn.lo bolelaw13_PathOwn.od) Try.f8 (Try.f8.body.getD .skip) [.string s1, .string t1] K h = bolelaw13_PathOwn s1 t1 K h := by kernel_rfl
theorem bolelaw13_PathOwn.chk : fnOk (cx bolelaw13_PathOwn.lo bolelaw13_PathOwn.od) Try.f8 (Try.f8.body.getD .skip) 2 = true := by kernel_rfl
theorem bolelaw13_PathOwn.ok {s1 : ByteArray} {t1 : ByteArray} {K : Value → Heap → Prop} {h : Heap} (hx : bolelaw13_PathOwn s1 t1 K h) : C.bolelaw13_PathOwn s1 t1 h K :=
  fn_to (cxOk _ _) Try.func8 (by kernel_rfl) bolelaw13_PathOwn.chk (by rw [bolelaw13_PathOwn.eq]; exact hx)

-- 9
def bolelaw09_mod (v1 : Int) (n1 : Int) (K : Value → Heap → Prop) (h1 : Heap) : Prop :=
  if n1 = 0 then False else
  bif (decide ((Int.tmod v1 n1) < 0)) then (
  K (.int .i64 (IntKind.wrap .i64 ((Int.tmod v1 n1) + n1))) h1) else (
  K (.int .i64 (Int.tmod v1 n1)) h1)
def bolelaw09_mod.lo : Nat → List Nat × List (Nat × Ty) := fun n => match n with | _ => ([], [])
def bolelaw09_mod.od : Nat → Od := fun n => match n with | _ => .nil
theorem bolelaw09_mod.eq (v1 : Int) (n1 : Int) (K : Value → Heap → Prop) (h : Heap) : fnX (cx bolelaw09_mod.lo bolelaw09_mod.od) Try.f9 (Try.f9.body.getD .skip) [.int .i64 v1, .int .i64 n1] K h = bolelaw09_mod v1 n1 K h := by kernel_rfl
theorem bolelaw09_mod.chk : fnOk (cx bolelaw09_mod.lo bolelaw09_mod.od) Try.f9 (Try.f9.body.getD .skip) 2 = true := by kernel_rfl
theorem bolelaw09_mod.ok {v1 : Int} {n1 : Int} {K : Value → Heap → Prop} {h : Heap} (hx : bolelaw09_mod v1 n1 K h) : C.bolelaw09_mod v1 n1 h K :=
  fn_to (cxOk _ _) Try.func9 (by kernel_rfl) bolelaw09_mod.chk (by rw [bolelaw09_mod.eq]; exact hx)

-- 10
def bolelaw09_opened.k1 (h2 : Heap) (h5 : Heap) (q1 : Option Addr) (h12 : Heap) (K : Value → Heap → Prop) : Prop :=
  C.txn_Begin q1 h12 fun r5 h13 =>
  ∃ (q2 : Option Addr), r5 = .pointer q2 ∧
  bif (Option.isNone q2) then (
  ∃ cs6 : List Value, List.length cs6 = 5 ∧ Cells h13 ⟨h5.size, 0, none⟩ cs6 ∧
  PutRow ⟨h2.size, 0, none⟩ cs6 5 h13 fun h14 =>
  ∃ res3 : List Value, List.length res3 = 5 ∧ Cells h14 ⟨h2.size, 0, none⟩ res3 ∧
  K (.tuple #[.pointer none, .agg ⟨res3⟩]) h14) else (
  ∃ cs7 : List Value, List.length cs7 = 5 ∧ Cells h13 ⟨h5.size, 0, none⟩ cs7 ∧
  C.space_Used q2 cs7 0 h13 fun r6 h15 =>
  ∃ (b1 : Bool) (n3 : Int), r6 = .tuple #[.bool b1, .int .i64 n3] ∧
  bif (n3 != 0) then (
  ∃ cs8 : List Value, List.length cs8 = 5 ∧ Cells h15 ⟨h5.size, 0, none⟩ cs8 ∧
  PutRow ⟨h2.size, 0, none⟩ cs8 5 h15 fun h16 =>
  ∃ res4 : List Value, List.length res4 = 5 ∧ Cells h16 ⟨h2.size, 0, none⟩ res4 ∧
  K (.tuple #[.pointer none, .agg ⟨res4⟩]) h16) else (
  bif (!b1) then (
  ∃ cs9 : List Value, List.length cs9 = 5 ∧ Cells h15 ⟨h5.size, 0, none⟩ cs9 ∧
  PutRow ⟨h2.size, 0, none⟩ cs9 5 h15 fun h17 =>
  ∃ res5 : List Value, List.length res5 = 5 ∧ Cells h17 ⟨h2.size, 0, none⟩ res5 ∧
  K (.tuple #[.pointer none, .agg ⟨res5⟩]) h17) else (
  ∃ cs10 : List Value, List.length cs10 = 5 ∧ Cells h15 ⟨h5.size, 0, none⟩ cs10 ∧
  PutRow ⟨h2.size, 0, none⟩ cs10 5 h15 fun h18 =>
  ∃ res6 : List Value, List.length res6 = 5 ∧ Cells h18 ⟨h2.size, 0, none⟩ res6 ∧
  K (.tuple #[.pointer q2, .agg ⟨res6⟩]) h18)))
def bolelaw09_opened (c1 : List Value) (K : Value → Heap → Prop) (h1 : Heap) : Prop :=
  New c1 27 h1 fun h2 =>
  New z30 30 h2 fun h3 =>
  ∃ cs1 : List Value, List.length cs1 = 4 ∧ Cells h3 ⟨h1.size, 0, none⟩ cs1 ∧
  C.bolelaw09_Case_blocks cs1 h3 fun r1 h4 =>
  ∃ (n1 : Int), r1 = .int .i64 n1 ∧
  C.boleref09_Geo n1 h4 fun r2 h5 =>
  ∃ (cs2 : List Value), r2 = .agg ⟨cs2⟩ ∧
  NewRow z30 30 cs2 5 h5 fun h7 =>
  ∃ cs3 : List Value, List.length cs3 = 4 ∧ Cells h7 ⟨h1.size, 0, none⟩ cs3 ∧
  C.bolelaw09_Case_image cs3 h7 fun r3 h8 =>
  ∃ (sA1 : Option Addr) (sL1 : Nat) (sC1 : Nat), r3 = .slice sA1 sL1 sC1 ∧
  C.adisk_Open sA1 sL1 sC1 h8 fun r4 h9 =>
  ∃ (q1 : Option Addr) (n2 : Int), r4 = .tuple #[.pointer q1, .int .i64 n2] ∧
  bif (n2 != 0) then (
  ∃ cs4 : List Value, List.length cs4 = 5 ∧ Cells h9 ⟨h5.size, 0, none⟩ cs4 ∧
  PutRow ⟨h2.size, 0, none⟩ cs4 5 h9 fun h10 =>
  ∃ res1 : List Value, List.length res1 = 5 ∧ Cells h10 ⟨h2.size, 0, none⟩ res1 ∧
  K (.tuple #[.pointer none, .agg ⟨res1⟩]) h10) else (
  bif (Option.isNone q1) then (
  ∃ cs5 : List Value, List.length cs5 = 5 ∧ Cells h9 ⟨h5.size, 0, none⟩ cs5 ∧
  PutRow ⟨h2.size, 0, none⟩ cs5 5 h9 fun h11 =>
  ∃ res2 : List Value, List.length res2 = 5 ∧ Cells h11 ⟨h2.size, 0, none⟩ res2 ∧
  K (.tuple #[.pointer none, .agg ⟨res2⟩]) h11) else (
  bolelaw09_opened.k1 h2 h5 q1 h9 K))
def bolelaw09_opened.lo : Nat → List Nat × List (Nat × Ty) := fun n => match n with | _ => ([], [])
def bolelaw09_opened.od : Nat → Od := fun n => match n with | 4 => (.op 0 [] (.op 1 [] (.op 2 [] .nil))) | 7 => (.op 0 [] (.op 1 [] (.op 2 [] .nil))) | 10 => (.op 0 [] (.op 1 [] (.op 2 [] .nil))) | 11 => (.op 0 [] (.op 1 [] (.op 2 [] (.op 3 [] .nil)))) | _ => .nil
theorem bolelaw09_opened.eq (c1 : List Value) (K : Value → Heap → Prop) (h : Heap) : fnX (cx bolelaw09_opened.lo bolelaw09_opened.od) Try.f10 (Try.f10.body.getD .skip) [.agg ⟨c1⟩] K h = bolelaw09_opened c1 K h := by kernel_rfl
theorem bolelaw09_opened.chk : fnOk (cx bolelaw09_opened.lo bolelaw09_opened.od) Try.f10 (Try.f10.body.getD .skip) 1 = true := by kernel_rfl
theorem bolelaw09_opened.ok {c1 : List Value} {K : Value → Heap → Prop} {h : Heap} (hx : bolelaw09_opened c1 K h) : C.bolelaw09_opened c1 h K :=
  fn_to (cxOk _ _) Try.func10 (by kernel_rfl) bolelaw09_opened.chk (by rw [bolelaw09_opened.eq]; exact hx)

-- 11
def space_Give.k1 (t1 : Option Addr) (i1 : Int) (h1 : Heap) (h2 : Heap) (K : Value → Heap → Prop) : Prop :=
  ∃ cs1 : List Value, List.length cs1 = 5 ∧ Cells h2 ⟨h1.size, 0, none⟩ cs1 ∧
  C.space_Used t1 cs1 i1 h2 fun r1 h3 =>
  ∃ (b1 : Bool) (n3 : Int), r1 = .tuple #[.bool b1, .int .i64 n3] ∧
  bif (n3 != 0) then (
  K (.int .i64 n3) h3) else (
  bif (!b1) then (
  K (.int .i64 91) h3) else (
  ∃ cs2 : List Value, List.length cs2 = 5 ∧ Cells h3 ⟨h1.size, 0, none⟩ cs2 ∧
  C.space_set t1 cs2 i1 false h3 fun r2 h4 =>
  ∃ (n4 : Int), r2 = .int .i64 n4 ∧
  K (.int .i64 n4) h4))
def space_Give (t1 : Option Addr) (g1 : List Value) (i1 : Int) (K : Value → Heap → Prop) (h1 : Heap) : Prop :=
  New g1 30 h1 fun h2 =>
  ∃ (n1 : Int), cellOf h2 (Addr.add ⟨h1.size, 0, none⟩ 3) = some (.int .i64 n1) ∧
  bif (decide (i1 < n1)) then (
  K (.int .i64 91) h2) else (
  ∃ (n2 : Int), cellOf h2 (Addr.add ⟨h1.size, 0, none⟩ 0) = some (.int .i64 n2) ∧
  bif (decide (i1 ≥ n2)) then (
  K (.int .i64 91) h2) else (
  space_Give.k1 t1 i1 h1 h2 K))
def space_Give.lo : Nat → List Nat × List (Nat × Ty) := fun n => match n with | _ => ([], [])
def space_Give.od : Nat → Od := fun n => match n with | _ => .nil
theorem space_Give.eq (t1 : Option Addr) (g1 : List Value) (i1 : Int) (K : Value → Heap → Prop) (h : Heap) : fnX (cx space_Give.lo space_Give.od) Try.f11 (Try.f11.body.getD .skip) [.pointer t1, .agg ⟨g1⟩, .int .i64 i1] K h = space_Give t1 g1 i1 K h := by kernel_rfl
theorem space_Give.chk : fnOk (cx space_Give.lo space_Give.od) Try.f11 (Try.f11.body.getD .skip) 3 = true := by kernel_rfl
theorem space_Give.ok {t1 : Option Addr} {g1 : List Value} {i1 : Int} {K : Value → Heap → Prop} {h : Heap} (hx : space_Give t1 g1 i1 K h) : C.space_Give t1 g1 i1 h K :=
  fn_to (cxOk _ _) Try.func11 (by kernel_rfl) space_Give.chk (by rw [space_Give.eq]; exact hx)

-- 12
def txn_Txn_Read.k1 (t1 : Option Addr) (i1 : Int) (h3 : Heap) (K : Value → Heap → Prop) : Prop :=
  onSome t1 fun p3 =>
  ∃ (m1 : Option Nat), cellOf h3 (Addr.add p3 1) = some (.map m1) ∧
  MapIn (.int .i64) m1 h3 fun mm1 =>
  ∃ (sA1 : Option Addr) (sL1 : Nat) (sC1 : Nat), Option.getD (mget mm1 (.i i1)) (zeroV ti24) = .slice sA1 sL1 sC1 ∧
  bif (Option.isSome (mget mm1 (.i i1))) then (
  C.slices_Clone_byte_byte sA1 sL1 sC1 h3 fun r2 h4 =>
  ∃ (sA2 : Option Addr) (sL2 : Nat) (sC2 : Nat), r2 = .slice sA2 sL2 sC2 ∧
  K (.tuple #[.slice sA2 sL2 sC2, .int .i64 0]) h4) else (
  onSome t1 fun p4 =>
  ∃ (q2 : Option Addr), cellOf h3 (Addr.add p4 0) = some (.pointer q2) ∧
  C.adisk_Disk_Read q2 i1 h3 fun r3 h5 =>
  ∃ (sA3 : Option Addr) (sL3 : Nat) (sC3 : Nat) (n2 : Int), r3 = .tuple #[.slice sA3 sL3 sC3, .int .i64 n2] ∧
  K (.tuple #[.slice sA3 sL3 sC3, .int .i64 n2]) h5)
def txn_Txn_Read (t1 : Option Addr) (i1 : Int) (K : Value → Heap → Prop) (h1 : Heap) : Prop :=
  onSome t1 fun p1 =>
  ∃ (b1 : Bool), cellOf h1 (Addr.add p1 3) = some (.bool b1) ∧
  bif b1 then (
  K (.tuple #[.slice none 0 0, .int .i64 61]) h1) else (
  bif (decide (i1 < 0)) then (
  K (.tuple #[.slice none 0 0, .int .i64 31]) h1) else (
  onSome t1 fun p2 =>
  ∃ (q1 : Option Addr), cellOf h1 (Addr.add p2 0) = some (.pointer q1) ∧
  C.adisk_Disk_Blocks q1 h1 fun r1 h2 =>
  ∃ (n1 : Int), r1 = .int .i64 n1 ∧
  bif (decide (i1 ≥ n1)) then (
  K (.tuple #[.slice none 0 0, .int .i64 31]) h2) else (
  txn_Txn_Read.k1 t1 i1 h2 K)))
def txn_Txn_Read.lo : Nat → List Nat × List (Nat × Ty) := fun n => match n with | _ => ([], [])
def txn_Txn_Read.od : Nat → Od := fun n => match n with | _ => .nil
theorem txn_Txn_Read.eq (t1 : Option Addr) (i1 : Int) (K : Value → Heap → Prop) (h : Heap) : fnX (cx txn_Txn_Read.lo txn_Txn_Read.od) Try.f12 (Try.f12.body.getD .skip) [.pointer t1, .int .i64 i1] K h = txn_Txn_Read t1 i1 K h := by kernel_rfl
theorem txn_Txn_Read.chk : fnOk (cx txn_Txn_Read.lo txn_Txn_Read.od) Try.f12 (Try.f12.body.getD .skip) 2 = true := by kernel_rfl
theorem txn_Txn_Read.ok {t1 : Option Addr} {i1 : Int} {K : Value → Heap → Prop} {h : Heap} (hx : txn_Txn_Read t1 i1 K h) : C.txn_Txn_Read t1 i1 h K :=
  fn_to (cxOk _ _) Try.func12 (by kernel_rfl) txn_Txn_Read.chk (by rw [txn_Txn_Read.eq]; exact hx)

-- 13
def bolelaw09_block (x1 : Int) (K : Value → Heap → Prop) (h1 : Heap) : Prop :=
  (0 ≤ (512 : Int) ∧ (512 : Int) ≤ 512 ∧ (1 : Int) * 512 ≤ 281474976710656 ∧ (512 : Int) ≤ 281474976710656) ∧
  New (repCells z5 (Int.toNat 512)) 5 h1 fun h2 =>
  ∃ (I1 : Int → Heap → Prop) (M1 : Int → Heap → Nat), I1 0 h2 ∧
  ∀ (n1 : Int), ∀ h3 : Heap, I1 n1 h3 →
  bif (decide (n1 < ((Int.toNat 512) : Int))) then (
  (0 ≤ n1 ∧ n1 < ((Int.toNat 512) : Int)) ∧
  Put (Addr.add ⟨h1.size, 0, none⟩ (Int.toNat n1)) (.int .u8 x1) h3 fun h4 =>
  I1 (IntKind.wrap .i64 (n1 + 1)) h4 ∧ M1 (IntKind.wrap .i64 (n1 + 1)) h4 < M1 n1 h3) else (
  K (.slice (some ⟨h1.size, 0, none⟩) (Int.toNat 512) (Int.toNat 512)) h3)
def bolelaw09_block.lo : Nat → List Nat × List (Nat × Ty) := fun n => match n with | 3 => ([0, 3, 7], [(8, .int .i64)]) | _ => ([], [])
def bolelaw09_block.od : Nat → Od := fun n => match n with | _ => .nil
theorem bolelaw09_block.eq (x1 : Int) (K : Value → Heap → Prop) (h : Heap) : fnX (cx bolelaw09_block.lo bolelaw09_block.od) Try.f13 (Try.f13.body.getD .skip) [.int .u8 x1] K h = bolelaw09_block x1 K h := by kernel_rfl
theorem bolelaw09_block.chk : fnOk (cx bolelaw09_block.lo bolelaw09_block.od) Try.f13 (Try.f13.body.getD .skip) 1 = true := by kernel_rfl
theorem bolelaw09_block.ok {x1 : Int} {K : Value → Heap → Prop} {h : Heap} (hx : bolelaw09_block x1 K h) : C.bolelaw09_block x1 h K :=
  fn_to (cxOk _ _) Try.func13 (by kernel_rfl) bolelaw09_block.chk (by rw [bolelaw09_block.eq]; exact hx)

-- 14
def space_Take (t1 : Option Addr) (g1 : List Value) (K : Value → Heap → Prop) (h1 : Heap) : Prop :=
  New [.pointer t1] 28 h1 fun h2 =>
  New g1 30 h2 fun h3 =>
  New z34 34 h3 fun h4 =>
  New z3 3 h4 fun h5 =>
  Put ⟨h4.size, 0, none⟩ (.int .i64 0) h5 fun h6 =>
  ∃ (q1 : Option Addr), cellOf h6 ⟨h1.size, 0, none⟩ = some (.pointer q1) ∧
  ∃ cs1 : List Value, List.length cs1 = 5 ∧ Cells h6 ⟨h2.size, 0, none⟩ cs1 ∧
  C.space_each q1 cs1 (Value.func (.func 44) #[] ⟨[.pointer (some ⟨h2.size, 0, none⟩), .pointer (some ⟨h4.size, 0, none⟩)]⟩) h6 fun r1 h7 =>
  ∃ (n1 : Int), r1 = .int .i64 n1 ∧
  Put ⟨h3.size, 0, none⟩ (.int .i64 n1) h7 fun h8 =>
  ∃ (n2 : Int), cellOf h8 ⟨h3.size, 0, none⟩ = some (.int .i64 n2) ∧
  bif (n2 != 0) then (
  ∃ (n3 : Int), cellOf h8 ⟨h3.size, 0, none⟩ = some (.int .i64 n3) ∧
  Put ⟨h3.size, 0, none⟩ (.int .i64 n3) h8 fun h9 =>
  ∃ (res1 : Int), cellOf h9 ⟨h3.size, 0, none⟩ = some (.int .i64 res1) ∧
  K (.tuple #[.int .i64 0, .int .i64 res1]) h9) else (
  ∃ (n4 : Int), cellOf h8 ⟨h4.size, 0, none⟩ = some (.int .i64 n4) ∧
  bif (n4 == 0) then (
  Put ⟨h3.size, 0, none⟩ (.int .i64 90) h8 fun h10 =>
  ∃ (res2 : Int), cellOf h10 ⟨h3.size, 0, none⟩ = some (.int .i64 res2) ∧
  K (.tuple #[.int .i64 0, .int .i64 res2]) h10) else (
  ∃ (q2 : Option Addr), cellOf h8 ⟨h1.size, 0, none⟩ = some (.pointer q2) ∧
  C.txn_Txn_Mark q2 h8 fun r2 h11 =>
  ∃ (n5 : Int) (n6 : Int), r2 = .tuple #[.int .i64 n5, .int .i64 n6] ∧
  New z3 3 h11 fun h12 =>
  Put ⟨h11.size, 0, none⟩ (.int .i64 n5) h12 fun h13 =>
  Put ⟨h3.size, 0, none⟩ (.int .i64 n6) h13 fun h14 =>
  ∃ (n7 : Int), cellOf h14 ⟨h3.size, 0, none⟩ = some (.int .i64 n7) ∧
  bif (n7 != 0) then (
  ∃ (n8 : Int), cellOf h14 ⟨h3.size, 0, none⟩ = some (.int .i64 n8) ∧
  Put ⟨h3.size, 0, none⟩ (.int .i64 n8) h14 fun h15 =>
  ∃ (res3 : Int), cellOf h15 ⟨h3.size, 0, none⟩ = some (.int .i64 res3) ∧
  K (.tuple #[.int .i64 0, .int .i64 res3]) h15) else (
  ∃ (q3 : Option Addr), cellOf h14 ⟨h1.size, 0, none⟩ = some (.pointer q3) ∧
  ∃ cs2 : List Value, List.length cs2 = 5 ∧ Cells h14 ⟨h2.size, 0, none⟩ cs2 ∧
  ∃ (n9 : Int), cellOf h14 ⟨h4.size, 0, none⟩ = some (.int .i64 n9) ∧
  C.space_set q3 cs2 n9 true h14 fun r3 h16 =>
  ∃ (n10 : Int), r3 = .int .i64 n10 ∧
  Put ⟨h3.size, 0, none⟩ (.int .i64 n10) h16 fun h17 =>
  ∃ (n11 : Int), cellOf h17 ⟨h3.size, 0, none⟩ = some (.int .i64 n11) ∧
  bif (n11 != 0) then (
  ∃ (n12 : Int), cellOf h17 ⟨h3.size, 0, none⟩ = some (.int .i64 n12) ∧
  Put ⟨h3.size, 0, none⟩ (.int .i64 n12) h17 fun h18 =>
  D.space_Take_c2 (some ⟨h1.size, 0, none⟩) (some ⟨h11.size, 0, none⟩) (some ⟨h3.size, 0, none⟩) h18 fun h19 =>
  ∃ (res4 : Int), cellOf h19 ⟨h3.size, 0, none⟩ = some (.int .i64 res4) ∧
  K (.tuple #[.int .i64 0, .int .i64 res4]) h19) else (
  ∃ (q4 : Option Addr), cellOf h17 ⟨h1.size, 0, none⟩ = some (.pointer q4) ∧
  ∃ (n13 : Int), cellOf h17 ⟨h4.size, 0, none⟩ = some (.int .i64 n13) ∧
  (0 ≤ (512 : Int) ∧ (512 : Int) ≤ 512 ∧ (1 : Int) * 512 ≤ 281474976710656 ∧ (512 : Int) ≤ 281474976710656) ∧
  New (repCells z5 (Int.toNat 512)) 5 h17 fun h20 =>
  (cellOf h20 ⟨h1.size, 0, none⟩ = some (.pointer q4)) ∧
  (cellOf h20 ⟨h4.size, 0, none⟩ = some (.int .i64 n13)) ∧
  C.txn_Txn_Write q4 n13 (some ⟨h17.size, 0, none⟩) (Int.toNat 512) (Int.toNat 512) h20 fun r4 h21 =>
  ∃ (n14 : Int), r4 = .int .i64 n14 ∧
  Put ⟨h3.size, 0, none⟩ (.int .i64 n14) h21 fun h22 =>
  ∃ (n15 : Int), cellOf h22 ⟨h3.size, 0, none⟩ = some (.int .i64 n15) ∧
  bif (n15 != 0) then (
  ∃ (n16 : Int), cellOf h22 ⟨h3.size, 0, none⟩ = some (.int .i64 n16) ∧
  Put ⟨h3.size, 0, none⟩ (.int .i64 n16) h22 fun h23 =>
  D.space_Take_c2 (some ⟨h1.size, 0, none⟩) (some ⟨h11.size, 0, none⟩) (some ⟨h3.size, 0, none⟩) h23 fun h24 =>
  ∃ (res5 : Int), cellOf h24 ⟨h3.size, 0, none⟩ = some (.int .i64 res5) ∧
  K (.tuple #[.int .i64 0, .int .i64 res5]) h24) else (
  ∃ (n17 : Int), cellOf h22 ⟨h4.size, 0, none⟩ = some (.int .i64 n17) ∧
  Put ⟨h3.size, 0, none⟩ (.int .i64 0) h22 fun h25 =>
  D.space_Take_c2 (some ⟨h1.size, 0, none⟩) (some ⟨h11.size, 0, none⟩) (some ⟨h3.size, 0, none⟩) h25 fun h26 =>
  ∃ (res6 : Int), cellOf h26 ⟨h3.size, 0, none⟩ = some (.int .i64 res6) ∧
  K (.tuple #[.int .i64 n17, .int .i64 res6]) h26)))))
def space_Take.lo : Nat → List Nat × List (Nat × Ty) := fun n => match n with | _ => ([], [])
def space_Take.od : Nat → Od := fun n => match n with | 4 => (.op 0 [] (.op 1 [] (.op 2 [] .nil))) | 9 => (.op 0 [] (.op 1 [] (.op 2 [] .nil))) | 13 => (.op 0 [] (.op 1 [] (.op 2 [] .nil))) | 14 => (.op 0 [] (.op 1 [] (.op 2 [0, 1] (.op 3 [] (.op 4 [] .nil))))) | 16 => (.op 0 [] (.op 1 [] (.op 2 [] .nil))) | _ => .nil
theorem space_Take.eq (t1 : Option Addr) (g1 : List Value) (K : Value → Heap → Prop) (h : Heap) : fnX (cx space_Take.lo space_Take.od) Try.f14 (Try.f14.body.getD .skip) [.pointer t1, .agg ⟨g1⟩] K h = space_Take t1 g1 K h := by kernel_rfl
theorem space_Take.chk : fnOk (cx space_Take.lo space_Take.od) Try.f14 (Try.f14.body.getD .skip) 2 = true := by kernel_rfl
theorem space_Take.ok {t1 : Option Addr} {g1 : List Value} {K : Value → Heap → Prop} {h : Heap} (hx : space_Take t1 g1 K h) : C.space_Take t1 g1 h K :=
  fn_to (cxOk _ _) Try.func14 (by kernel_rfl) space_Take.chk (by rw [space_Take.eq]; exact hx)
end Go.Proofs.Ytgpkcakanieodaa.W
