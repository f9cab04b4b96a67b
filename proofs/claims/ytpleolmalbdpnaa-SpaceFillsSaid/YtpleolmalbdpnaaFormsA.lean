/-
  WHAT THE FUNCTIONS COMPUTE, as formulas; each held against the loaded code by the kernel. Written by program (gen.py).
-/
import Derived.Test.YtpleolmalbdpnaaTab
namespace Go.Proofs.Ytpleolmalbdpnaa.W
open Go Go.Proofs Go.Proofs.Ytpleolmalbdpnaa.Wx
-- 3
def bolelaw09_SpaceFills.k2 (h5 : Heap) (q1 : Option Addr) (n6 : Int) (h12 : Heap) (I2 : Int → Heap → Prop) (M2 : Int → Heap → Nat) (n7 : Int) (h17 : Heap) (K : Value → Heap → Prop) : Prop :=
  ∃ cs6 : List Value, List.length cs6 = 5 ∧ Cells h17 ⟨h5.size, 0, none⟩ cs6 ∧
  C.space_Used q1 cs6 n7 h17 fun r8 h18 =>
  ∃ (b2 : Bool) (n13 : Int), r8 = .tuple #[.bool b2, .int .i64 n13] ∧
  bif (n13 != 0) then (
  K (.bool false) h18) else (
  bif (!b2) then (
  K (.bool false) h18) else (
  I2 (IntKind.wrap .i64 (n6 + 1)) h18 ∧ M2 (IntKind.wrap .i64 (n6 + 1)) h18 < M2 n6 h12))
def bolelaw09_SpaceFills.k1 (h5 : Heap) (q1 : Option Addr) (n6 : Int) (h12 : Heap) (I2 : Int → Heap → Prop) (M2 : Int → Heap → Nat) (n7 : Int) (h13 : Heap) (K : Value → Heap → Prop) : Prop :=
  ∃ cs5 : List Value, List.length cs5 = 5 ∧ Cells h13 ⟨h5.size, 0, none⟩ cs5 ∧
  C.space_Take q1 cs5 h13 fun r5 h14 =>
  ∃ (n10 : Int) (n11 : Int), r5 = .tuple #[.int .i64 n10, .int .i64 n11] ∧
  C.txn_Txn_Read q1 n7 h14 fun r6 h15 =>
  ∃ (sA2 : Option Addr) (sL2 : Nat) (sC2 : Nat) (n12 : Int), r6 = .tuple #[.slice sA2 sL2 sC2, .int .i64 n12] ∧
  bif (n11 != 0) then (
  K (.bool false) h15) else (
  bif (n10 != n7) then (
  K (.bool false) h15) else (
  bif (n12 != 0) then (
  K (.bool false) h15) else (
  ∃ bs1 : List UInt8, StrAt h15 sA2 sL2 bs1 ∧
  C.bolelaw09_block 0 h15 fun r7 h16 =>
  ∃ (sA3 : Option Addr) (sL3 : Nat) (sC3 : Nat), r7 = .slice sA3 sL3 sC3 ∧
  StrAt h16 sA2 sL2 (ByteArray.toList (mkStr bs1)) ∧
  ∃ bs2 : List UInt8, StrAt h16 sA3 sL3 bs2 ∧
  bif (!((mkStr bs1).toList == (mkStr bs2).toList)) then (
  K (.bool false) h16) else (
  bolelaw09_SpaceFills.k2 h5 q1 n6 h12 I2 M2 n7 h16 K))))
def bolelaw09_SpaceFills.k4 (h5 : Heap) (q1 : Option Addr) (freeA1 : Option Addr) (freeL1 : Nat) (h28 : Heap) (K : Value → Heap → Prop) : Prop :=
  bif ((freeL1 : Int) == 0) then (
  K (.bool true) h28) else (
  ∃ cs11 : List Value, List.length cs11 = 5 ∧ Cells h28 ⟨h5.size, 0, none⟩ cs11 ∧
  C.space_Take q1 cs11 h28 fun r17 h29 =>
  ∃ (n25 : Int) (n26 : Int), r17 = .tuple #[.int .i64 n25, .int .i64 n26] ∧
  bif (n26 == 0) then (
  (0 ≤ (0 : Int) ∧ 0 < (freeL1 : Int)) ∧
  onSome freeA1 fun p3 =>
  ∃ (n27 : Int), cellOf h29 (Addr.add p3 (Int.toNat 0)) = some (.int .i64 n27) ∧
  K (.bool (n25 == n27)) h29) else (
  K (.bool false) h29))
def bolelaw09_SpaceFills.k3 (order1 : Int) (h5 : Heap) (q1 : Option Addr) (freeA1 : Option Addr) (freeL1 : Nat) (h22 : Heap) (K : Value → Heap → Prop) : Prop :=
  ∃ (I3 : Int → Heap → Prop) (M3 : Int → Heap → Nat), I3 0 h22 ∧
  ∀ (n17 : Int), ∀ h23 : Heap, I3 n17 h23 →
  bif (decide (n17 < (freeL1 : Int))) then (
  C.bolelaw09_mod order1 (freeL1 : Int) h23 fun r12 h24 =>
  ∃ (n18 : Int), r12 = .int .i64 n18 ∧
  C.bolelaw09_mod (IntKind.wrap .i64 (n17 + n18)) (freeL1 : Int) h24 fun r13 h25 =>
  ∃ (n19 : Int), r13 = .int .i64 n19 ∧
  (0 ≤ n19 ∧ n19 < (freeL1 : Int)) ∧
  onSome freeA1 fun p2 =>
  ∃ (n20 : Int), cellOf h25 (Addr.add p2 (Int.toNat n19)) = some (.int .i64 n20) ∧
  ∃ cs8 : List Value, List.length cs8 = 5 ∧ Cells h25 ⟨h5.size, 0, none⟩ cs8 ∧
  C.space_Give q1 cs8 n20 h25 fun r14 h26 =>
  ∃ (n21 : Int), r14 = .int .i64 n21 ∧
  bif (n21 != 0) then (
  K (.bool false) h26) else (
  ∃ cs9 : List Value, List.length cs9 = 5 ∧ Cells h26 ⟨h5.size, 0, none⟩ cs9 ∧
  C.space_Give q1 cs9 n20 h26 fun r15 h27 =>
  ∃ (n22 : Int), r15 = .int .i64 n22 ∧
  bif (n22 != 91) then (
  K (.bool false) h27) else (
  I3 (IntKind.wrap .i64 (n17 + 1)) h27 ∧ M3 (IntKind.wrap .i64 (n17 + 1)) h27 < M3 n17 h23))) else (
  ∃ cs10 : List Value, List.length cs10 = 5 ∧ Cells h23 ⟨h5.size, 0, none⟩ cs10 ∧
  C.space_Free q1 cs10 h23 fun r16 h28 =>
  ∃ (n23 : Int) (n24 : Int), r16 = .tuple #[.int .i64 n23, .int .i64 n24] ∧
  bif (n24 != 0) then (
  K (.bool false) h28) else (
  bif (n23 != (freeL1 : Int)) then (
  K (.bool false) h28) else (
  bolelaw09_SpaceFills.k4 h5 q1 freeA1 freeL1 h28 K)))
def bolelaw09_SpaceFills (c1 : List Value) (order1 : Int) (K : Value → Heap → Prop) (h1 : Heap) : Prop :=
  New c1 25 h1 fun h2 =>
  ∃ (n1 : Int), cellOf h2 (Addr.add ⟨h1.size, 0, none⟩ 0) = some (.int .i64 n1) ∧
  C.bolelaw09_mod n1 60 h2 fun r1 h3 =>
  ∃ (n2 : Int), r1 = .int .i64 n2 ∧
  Put (Addr.add ⟨h1.size, 0, none⟩ 0) (.int .i64 n2) h3 fun h4 =>
  ∃ cs1 : List Value, List.length cs1 = 4 ∧ Cells h4 ⟨h1.size, 0, none⟩ cs1 ∧
  C.bolelaw09_opened cs1 h4 fun r2 h5 =>
  ∃ (q1 : Option Addr) (cs2 : List Value), r2 = .tuple #[.pointer q1, .agg ⟨cs2⟩] ∧
  NewRow z29 29 cs2 5 h5 fun h7 =>
  bif (Option.isNone q1) then (
  K (.bool false) h7) else (
  ∃ (n3 : Int), cellOf h7 (Addr.add ⟨h5.size, 0, none⟩ 3) = some (.int .i64 n3) ∧
  ∃ (I1 : Option Addr → Nat → Nat → Int → Heap → Prop) (M1 : Option Addr → Nat → Nat → Int → Heap → Nat), I1 none 0 0 n3 h7 ∧
  ∀ (freeA1 : Option Addr) (freeL1 : Nat) (freeC1 : Nat) (i1 : Int), ∀ h8 : Heap, I1 freeA1 freeL1 freeC1 i1 h8 →
  ∃ (n4 : Int), cellOf h8 (Addr.add ⟨h5.size, 0, none⟩ 0) = some (.int .i64 n4) ∧
  bif (decide (i1 < n4)) then (
  ∃ cs3 : List Value, List.length cs3 = 5 ∧ Cells h8 ⟨h5.size, 0, none⟩ cs3 ∧
  C.space_Used q1 cs3 i1 h8 fun r3 h9 =>
  ∃ (b1 : Bool) (n5 : Int), r3 = .tuple #[.bool b1, .int .i64 n5] ∧
  bif (n5 != 0) then (
  K (.bool false) h9) else (
  bif (!b1) then (
  New [.int .i64 i1] 3 h9 fun h10 =>
  ∃ new1 : List Value, List.length new1 = 1 * 1 ∧ SlCells h10 (some ⟨h9.size, 0, none⟩) new1 ∧ (∀ v ∈ new1, v.oneCell' = true) ∧
  AppendP ti3 3 freeA1 freeL1 freeC1 1 new1 h10 fun sA1 sL1 sC1 h11 =>
  I1 sA1 sL1 sC1 (IntKind.wrap .i64 (i1 + 1)) h11 ∧ M1 sA1 sL1 sC1 (IntKind.wrap .i64 (i1 + 1)) h11 < M1 freeA1 freeL1 freeC1 i1 h8) else (
  I1 freeA1 freeL1 freeC1 (IntKind.wrap .i64 (i1 + 1)) h9 ∧ M1 freeA1 freeL1 freeC1 (IntKind.wrap .i64 (i1 + 1)) h9 < M1 freeA1 freeL1 freeC1 i1 h8))) else (
  ∃ (I2 : Int → Heap → Prop) (M2 : Int → Heap → Nat), I2 0 h8 ∧
  ∀ (n6 : Int), ∀ h12 : Heap, I2 n6 h12 →
  bif (decide (n6 < (freeL1 : Int))) then (
  (0 ≤ n6 ∧ n6 < (freeL1 : Int)) ∧
  onSome freeA1 fun p1 =>
  ∃ (n7 : Int), cellOf h12 (Addr.add p1 (Int.toNat n6)) = some (.int .i64 n7) ∧
  ∃ cs4 : List Value, List.length cs4 = 5 ∧ Cells h12 ⟨h5.size, 0, none⟩ cs4 ∧
  C.space_Free q1 cs4 h12 fun r4 h13 =>
  ∃ (n8 : Int) (n9 : Int), r4 = .tuple #[.int .i64 n8, .int .i64 n9] ∧
  bif (n9 != 0) then (
  K (.bool false) h13) else (
  bif (n8 != (IntKind.wrap .i64 ((freeL1 : Int) - n6))) then (
  K (.bool false) h13) else (
  bolelaw09_SpaceFills.k1 h5 q1 n6 h12 I2 M2 n7 h13 K))) else (
  ∃ cs7 : List Value, List.length cs7 = 5 ∧ Cells h12 ⟨h5.size, 0, none⟩ cs7 ∧
  C.space_Take q1 cs7 h12 fun r9 h19 =>
  ∃ (n14 : Int) (n15 : Int), r9 = .tuple #[.int .i64 n14, .int .i64 n15] ∧
  bif (n15 != 90) then (
  K (.bool false) h19) else (
  C.txn_Txn_Written q1 h19 fun r10 h20 =>
  ∃ (sA4 : Option Addr) (sL4 : Nat) (sC4 : Nat), r10 = .slice sA4 sL4 sC4 ∧
  C.bolelaw09_taken freeA1 freeL1 freeC1 h20 fun r11 h21 =>
  ∃ (n16 : Int), r11 = .int .i64 n16 ∧
  bif ((sL4 : Int) != (IntKind.wrap .i64 ((freeL1 : Int) + n16))) then (
  K (.bool false) h21) else (
  bolelaw09_SpaceFills.k3 order1 h5 q1 freeA1 freeL1 h21 K)))))
def bolelaw09_SpaceFills.lo : Nat → List Nat × List (Nat × Ty) := fun n => match n with | 7 => ([1, 5, 6], [(7, .slice), (8, .int .i64)]) | 15 => ([1, 5, 6, 7, 63, 64], [(65, .int .i64)]) | 32 => ([1, 5, 6, 7, 150], [(151, .int .i64)]) | _ => ([], [])
def bolelaw09_SpaceFills.od : Nat → Od := fun n => match n with | 22 => (.op 0 [] (.op 1 [] (.op 2 [] (.op 3 [] (.op 4 [] (.op 5 [] (.op 6 [] (.op 7 [] (.op 8 [] (.op 9 [] (.op 10 [] (.op 11 [] (.op 12 [] (.op 13 [] (.op 14 [13] (.op 15 [] (.op 16 [] (.op 17 [] .nil)))))))))))))))))) | _ => .nil
theorem bolelaw09_SpaceFills.eq (c1 : List Value) (order1 : Int) (K : Value → Heap → Prop) (h : Heap) : fnX (cx bolelaw09_SpaceFills.lo bolelaw09_SpaceFills.od) Try.f3 (Try.f3.body.getD .skip) [.agg ⟨c1⟩, .int .i64 order1] K h = bolelaw09_SpaceFills c1 order1 K h := by kernel_rfl
theorem bolelaw09_SpaceFills.chk : fnOk (cx bolelaw09_SpaceFills.lo bolelaw09_SpaceFills.od) Try.f3 (Try.f3.body.getD .skip) 2 = true := by kernel_rfl
theorem bolelaw09_SpaceFills.ok {c1 : List Value} {order1 : Int} {K : Value → Heap → Prop} {h : Heap} (hx : bolelaw09_SpaceFills c1 order1 K h) : C.bolelaw09_SpaceFills c1 order1 h K :=
  fn_to (cxOk _ _) Try.func3 (by kernel_rfl) bolelaw09_SpaceFills.chk (by rw [bolelaw09_SpaceFills.eq]; exact hx)

-- 4
def bolelaw09_SpaceRefused.k4 (h4 : Heap) (q1 : Option Addr) (m1 : Int) (k1 : Int) (h13 : Heap) (I1 : Int → Int → Heap → Prop) (M1 : Int → Int → Heap → Nat) (m2 : Int) (h15 : Heap) (K : Value → Heap → Prop) : Prop :=
  ∃ (n7 : Int), cellOf h15 (Addr.add ⟨h4.size, 0, none⟩ 3) = some (.int .i64 n7) ∧
  C.bolelaw09_block (IntKind.wrap .u8 (k1)) h15 fun r7 h16 =>
  ∃ (sA3 : Option Addr) (sL3 : Nat) (sC3 : Nat), r7 = .slice sA3 sL3 sC3 ∧
  (cellOf h16 (Addr.add ⟨h4.size, 0, none⟩ 3) = some (.int .i64 n7)) ∧
  C.txn_Txn_Write q1 (IntKind.wrap .i64 ((IntKind.wrap .i64 (n7 + 1)) + k1)) sA3 sL3 sC3 h16 fun r8 h17 =>
  ∃ (n8 : Int), r8 = .int .i64 n8 ∧
  bif (n8 != 0) then (
  K (.bool false) h17) else (
  I1 m2 (IntKind.wrap .i64 (k1 + 1)) h17 ∧ M1 m2 (IntKind.wrap .i64 (k1 + 1)) h17 < M1 m1 k1 h13)
def bolelaw09_SpaceRefused.k6 (h4 : Heap) (q1 : Option Addr) (m1 : Int) (h29 : Heap) (K : Value → Heap → Prop) : Prop :=
  C.txn_Txn_Back q1 m1 h29 fun r19 h30 =>
  ∃ (n28 : Int), r19 = .int .i64 n28 ∧
  bif (n28 != 0) then (
  K (.bool false) h30) else (
  ∃ cs10 : List Value, List.length cs10 = 5 ∧ Cells h30 ⟨h4.size, 0, none⟩ cs10 ∧
  C.space_Take q1 cs10 h30 fun r20 h31 =>
  ∃ (n29 : Int) (n30 : Int), r20 = .tuple #[.int .i64 n29, .int .i64 n30] ∧
  bif (n30 == 0) then (
  ∃ (n31 : Int), cellOf h31 (Addr.add ⟨h4.size, 0, none⟩ 3) = some (.int .i64 n31) ∧
  bif (n29 == n31) then (
  C.txn_Txn_Written q1 h31 fun r21 h32 =>
  ∃ (sA7 : Option Addr) (sL7 : Nat) (sC7 : Nat), r21 = .slice sA7 sL7 sC7 ∧
  K (.bool ((sL7 : Int) == 96)) h32) else (
  K (.bool false) h31)) else (
  K (.bool false) h31))
def bolelaw09_SpaceRefused.k5 (give1 : Int) (h4 : Heap) (q1 : Option Addr) (m1 : Int) (h24 : Heap) (K : Value → Heap → Prop) : Prop :=
  ∃ cs7 : List Value, List.length cs7 = 5 ∧ Cells h24 ⟨h4.size, 0, none⟩ cs7 ∧
  ∃ (n21 : Int), cellOf h24 (Addr.add ⟨h4.size, 0, none⟩ 3) = some (.int .i64 n21) ∧
  C.space_Give q1 cs7 n21 h24 fun r15 h25 =>
  ∃ (n22 : Int), r15 = .int .i64 n22 ∧
  bif (n22 != 91) then (
  K (.bool false) h25) else (
  ∃ cs8 : List Value, List.length cs8 = 5 ∧ Cells h25 ⟨h4.size, 0, none⟩ cs8 ∧
  ∃ (n23 : Int), cellOf h25 (Addr.add ⟨h4.size, 0, none⟩ 3) = some (.int .i64 n23) ∧
  C.space_Give q1 cs8 (IntKind.wrap .i64 (n23 - 1)) h25 fun r16 h26 =>
  ∃ (n24 : Int), r16 = .int .i64 n24 ∧
  bif (n24 != 91) then (
  K (.bool false) h26) else (
  ∃ cs9 : List Value, List.length cs9 = 5 ∧ Cells h26 ⟨h4.size, 0, none⟩ cs9 ∧
  ∃ (n25 : Int), cellOf h26 (Addr.add ⟨h4.size, 0, none⟩ 0) = some (.int .i64 n25) ∧
  C.bolelaw09_mod give1 1000 h26 fun r17 h27 =>
  ∃ (n26 : Int), r17 = .int .i64 n26 ∧
  (List.length (cs9 : List Value) = 5 ∧ Cells h27 ⟨h4.size, 0, none⟩ cs9) ∧
  (cellOf h27 (Addr.add ⟨h4.size, 0, none⟩ 0) = some (.int .i64 n25)) ∧
  C.space_Give q1 cs9 (IntKind.wrap .i64 (n25 + n26)) h27 fun r18 h28 =>
  ∃ (n27 : Int), r18 = .int .i64 n27 ∧
  bif (n27 != 91) then (
  K (.bool false) h28) else (
  bolelaw09_SpaceRefused.k6 h4 q1 m1 h28 K)))
def bolelaw09_SpaceRefused.k3 (give1 : Int) (h4 : Heap) (q1 : Option Addr) (h12 : Heap) (most1 : Int) (K : Value → Heap → Prop) : Prop :=
  ∃ (I1 : Int → Int → Heap → Prop) (M1 : Int → Int → Heap → Nat), I1 0 0 h12 ∧
  ∀ (m1 : Int) (k1 : Int), ∀ h13 : Heap, I1 m1 k1 h13 →
  bif (decide (k1 < most1)) then (
  bif (k1 == 94) then (
  C.txn_Txn_Mark q1 h13 fun r6 h14 =>
  ∃ (n5 : Int) (n6 : Int), r6 = .tuple #[.int .i64 n5, .int .i64 n6] ∧
  bolelaw09_SpaceRefused.k4 h4 q1 m1 k1 h13 I1 M1 n5 h14 K) else (
  bolelaw09_SpaceRefused.k4 h4 q1 m1 k1 h13 I1 M1 m1 h13 K)) else (
  ∃ (n9 : Int), cellOf h13 (Addr.add ⟨h4.size, 0, none⟩ 1) = some (.int .i64 n9) ∧
  C.txn_Txn_Read q1 n9 h13 fun r9 h18 =>
  ∃ (sA4 : Option Addr) (sL4 : Nat) (sC4 : Nat) (n10 : Int), r9 = .tuple #[.slice sA4 sL4 sC4, .int .i64 n10] ∧
  ∃ cs4 : List Value, List.length cs4 = 5 ∧ Cells h18 ⟨h4.size, 0, none⟩ cs4 ∧
  C.space_Free q1 cs4 h18 fun r10 h19 =>
  ∃ (n11 : Int) (n12 : Int), r10 = .tuple #[.int .i64 n11, .int .i64 n12] ∧
  ∃ cs5 : List Value, List.length cs5 = 5 ∧ Cells h19 ⟨h4.size, 0, none⟩ cs5 ∧
  C.space_Take q1 cs5 h19 fun r11 h20 =>
  ∃ (n13 : Int) (n14 : Int), r11 = .tuple #[.int .i64 n13, .int .i64 n14] ∧
  ∃ (n15 : Int), cellOf h20 (Addr.add ⟨h4.size, 0, none⟩ 1) = some (.int .i64 n15) ∧
  C.txn_Txn_Read q1 n15 h20 fun r12 h21 =>
  ∃ (sA5 : Option Addr) (sL5 : Nat) (sC5 : Nat) (n16 : Int), r12 = .tuple #[.slice sA5 sL5 sC5, .int .i64 n16] ∧
  ∃ cs6 : List Value, List.length cs6 = 5 ∧ Cells h21 ⟨h4.size, 0, none⟩ cs6 ∧
  C.space_Free q1 cs6 h21 fun r13 h22 =>
  ∃ (n17 : Int) (n18 : Int), r13 = .tuple #[.int .i64 n17, .int .i64 n18] ∧
  bif (n14 != 60) then (
  K (.bool false) h22) else (
  C.txn_Txn_Written q1 h22 fun r14 h23 =>
  ∃ (sA6 : Option Addr) (sL6 : Nat) (sC6 : Nat), r14 = .slice sA6 sL6 sC6 ∧
  bif ((sL6 : Int) != most1) then (
  K (.bool false) h23) else (
  ∃ bs1 : List UInt8, StrAt h23 sA5 sL5 bs1 ∧
  ∃ bs2 : List UInt8, StrAt h23 sA4 sL4 bs2 ∧
  bif (!((mkStr bs1).toList == (mkStr bs2).toList)) then (
  K (.bool false) h23) else (
  bif (n17 != n11) then (
  K (.bool false) h23) else (
  bif (n18 != 0) then (
  K (.bool false) h23) else (
  ∃ (n19 : Int), cellOf h23 (Addr.add ⟨h4.size, 0, none⟩ 0) = some (.int .i64 n19) ∧
  ∃ (n20 : Int), cellOf h23 (Addr.add ⟨h4.size, 0, none⟩ 3) = some (.int .i64 n20) ∧
  bif (n11 != (IntKind.wrap .i64 (n19 - n20))) then (
  K (.bool false) h23) else (
  bolelaw09_SpaceRefused.k5 give1 h4 q1 m1 h23 K)))))))
def bolelaw09_SpaceRefused.k2 (less1 : Bool) (give1 : Int) (h4 : Heap) (q1 : Option Addr) (h12 : Heap) (K : Value → Heap → Prop) : Prop :=
  bif less1 then (
  bolelaw09_SpaceRefused.k3 give1 h4 q1 h12 95 K) else (
  bolelaw09_SpaceRefused.k3 give1 h4 q1 h12 96 K)
def bolelaw09_SpaceRefused.k1 (less1 : Bool) (give1 : Int) (h4 : Heap) (q1 : Option Addr) (h9 : Heap) (K : Value → Heap → Prop) : Prop :=
  C.txn_Txn_Back q1 0 h9 fun r4 h10 =>
  ∃ (n4 : Int), r4 = .int .i64 n4 ∧
  bif (n4 != 0) then (
  K (.bool false) h10) else (
  C.txn_Txn_Written q1 h10 fun r5 h11 =>
  ∃ (sA2 : Option Addr) (sL2 : Nat) (sC2 : Nat), r5 = .slice sA2 sL2 sC2 ∧
  bif ((sL2 : Int) != 0) then (
  K (.bool false) h11) else (
  bolelaw09_SpaceRefused.k2 less1 give1 h4 q1 h11 K))
def bolelaw09_SpaceRefused (less1 : Bool) (give1 : Int) (K : Value → Heap → Prop) (h1 : Heap) : Prop :=
  NewRow z25 25 [.int .i64 170, .slice none 0 0, .int .u8 0, .slice none 0 0] 4 h1 fun h3 =>
  ∃ cs1 : List Value, List.length cs1 = 4 ∧ Cells h3 ⟨h1.size, 0, none⟩ cs1 ∧
  C.bolelaw09_opened cs1 h3 fun r1 h4 =>
  ∃ (q1 : Option Addr) (cs2 : List Value), r1 = .tuple #[.pointer q1, .agg ⟨cs2⟩] ∧
  NewRow z29 29 cs2 5 h4 fun h6 =>
  bif (Option.isNone q1) then (
  K (.bool false) h6) else (
  ∃ cs3 : List Value, List.length cs3 = 5 ∧ Cells h6 ⟨h4.size, 0, none⟩ cs3 ∧
  C.space_Take q1 cs3 h6 fun r2 h7 =>
  ∃ (n1 : Int) (n2 : Int), r2 = .tuple #[.int .i64 n1, .int .i64 n2] ∧
  bif (n2 != 0) then (
  K (.bool false) h7) else (
  ∃ (n3 : Int), cellOf h7 (Addr.add ⟨h4.size, 0, none⟩ 3) = some (.int .i64 n3) ∧
  bif (n1 != n3) then (
  K (.bool false) h7) else (
  C.txn_Txn_Written q1 h7 fun r3 h8 =>
  ∃ (sA1 : Option Addr) (sL1 : Nat) (sC1 : Nat), r3 = .slice sA1 sL1 sC1 ∧
  bif ((sL1 : Int) != 2) then (
  K (.bool false) h8) else (
  bolelaw09_SpaceRefused.k1 less1 give1 h4 q1 h8 K))))
def bolelaw09_SpaceRefused.lo : Nat → List Nat × List (Nat × Ty) := fun n => match n with | 15 => ([1, 6, 7, 10], [(11, .int .i64), (12, .int .i64)]) | _ => ([], [])
def bolelaw09_SpaceRefused.od : Nat → Od := fun n => match n with | 19 => (.op 0 [] (.op 1 [] (.op 2 [] (.op 3 [] (.op 4 [] (.op 5 [] (.op 6 [] (.op 7 [] (.op 8 [2] (.op 9 [] (.op 10 [] .nil))))))))))) | 28 => (.op 0 [] (.op 1 [] (.op 2 [] (.op 3 [] (.op 4 [] (.op 5 [] (.op 6 [] (.op 7 [] (.op 8 [] (.op 9 [] (.op 10 [] (.op 11 [] (.op 12 [] (.op 13 [] (.op 14 [] (.op 15 [] (.op 16 [] (.op 17 [] (.op 18 [] (.op 19 [] (.op 20 [] (.op 21 [17, 19] (.op 22 [] (.op 23 [] (.op 24 [] (.op 25 [] .nil)))))))))))))))))))))))))) | _ => .nil
theorem bolelaw09_SpaceRefused.eq (less1 : Bool) (give1 : Int) (K : Value → Heap → Prop) (h : Heap) : fnX (cx bolelaw09_SpaceRefused.lo bolelaw09_SpaceRefused.od) Try.f4 (Try.f4.body.getD .skip) [.bool less1, .int .i64 give1] K h = bolelaw09_SpaceRefused less1 give1 K h := by kernel_rfl
theorem bolelaw09_SpaceRefused.chk : fnOk (cx bolelaw09_SpaceRefused.lo bolelaw09_SpaceRefused.od) Try.f4 (Try.f4.body.getD .skip) 2 = true := by kernel_rfl
theorem bolelaw09_SpaceRefused.ok {less1 : Bool} {give1 : Int} {K : Value → Heap → Prop} {h : Heap} (hx : bolelaw09_SpaceRefused less1 give1 K h) : C.bolelaw09_SpaceRefused less1 give1 h K :=
  fn_to (cxOk _ _) Try.func4 (by kernel_rfl) bolelaw09_SpaceRefused.chk (by rw [bolelaw09_SpaceRefused.eq]; exact hx)

-- 5
def bolelaw09_mod (v1 : Int) (n1 : Int) (K : Value → Heap → Prop) (h1 : Heap) : Prop :=
  if n1 = 0 then False else
  bif (decide ((Int.tmod v1 n1) < 0)) then (
  K (.int .i64 (IntKind.wrap .i64 ((Int.tmod v1 n1) + n1))) h1) else (
  K (.int .i64 (Int.tmod v1 n1)) h1)
def bolelaw09_mod.lo : Nat → List Nat × List (Nat × Ty) := fun n => match n with | _ => ([], [])
def bolelaw09_mod.od : Nat → Od := fun n => match n with | _ => .nil
theorem bolelaw09_mod.eq (v1 : Int) (n1 : Int) (K : Value → Heap → Prop) (h : Heap) : fnX (cx bolelaw09_mod.lo bolelaw09_mod.od) Try.f5 (Try.f5.body.getD .skip) [.int .i64 v1, .int .i64 n1] K h = bolelaw09_mod v1 n1 K h := by kernel_rfl
theorem bolelaw09_mod.chk : fnOk (cx bolelaw09_mod.lo bolelaw09_mod.od) Try.f5 (Try.f5.body.getD .skip) 2 = true := by kernel_rfl
theorem bolelaw09_mod.ok {v1 : Int} {n1 : Int} {K : Value → Heap → Prop} {h : Heap} (hx : bolelaw09_mod v1 n1 K h) : C.bolelaw09_mod v1 n1 h K :=
  fn_to (cxOk _ _) Try.func5 (by kernel_rfl) bolelaw09_mod.chk (by rw [bolelaw09_mod.eq]; exact hx)

-- 6
def bolelaw09_opened.k1 (h2 : Heap) (h5 : Heap) (q1 : Option Addr) (h12 : Heap) (K : Value → Heap → Prop) : Prop :=
  C.txn_Begin q1 h12 fun r5 h13 =>
  ∃ (q2 : Option Addr), r5 = .pointer q2 ∧
  bif (Option.isNone q2) then (
  ∃ cs6 : List Value, List.length cs6 = 5 ∧ Cells h13 ⟨h5.size, 0, none⟩ cs6 ∧
  PutRow ⟨h2.size, 0, none⟩ cs6 5 h13 fun h14 =>
  ∃ res3 : List Value, List.length res3 = 5 ∧ Cells h14 ⟨h2.size, 0, none⟩ res3 ∧
  K (.tuple #[.pointer none, .agg ⟨res3⟩]) h14) else (
  ∃ cs7 : List Value, List.length cs7 = 5 ∧ Cells h13 ⟨h5.size, 0, none⟩ cs7 ∧
  C.space_Used q2 cs7 0 h13 fun r6 h15 =>
  ∃ (b1 : Bool) (n3 : Int), r6 = .tuple #[.bool b1, .int .i64 n3] ∧
  bif (n3 != 0) then (
  ∃ cs8 : List Value, List.length cs8 = 5 ∧ Cells h15 ⟨h5.size, 0, none⟩ cs8 ∧
  PutRow ⟨h2.size, 0, none⟩ cs8 5 h15 fun h16 =>
  ∃ res4 : List Value, List.length res4 = 5 ∧ Cells h16 ⟨h2.size, 0, none⟩ res4 ∧
  K (.tuple #[.pointer none, .agg ⟨res4⟩]) h16) else (
  bif (!b1) then (
  ∃ cs9 : List Value, List.length cs9 = 5 ∧ Cells h15 ⟨h5.size, 0, none⟩ cs9 ∧
  PutRow ⟨h2.size, 0, none⟩ cs9 5 h15 fun h17 =>
  ∃ res5 : List Value, List.length res5 = 5 ∧ Cells h17 ⟨h2.size, 0, none⟩ res5 ∧
  K (.tuple #[.pointer none, .agg ⟨res5⟩]) h17) else (
  ∃ cs10 : List Value, List.length cs10 = 5 ∧ Cells h15 ⟨h5.size, 0, none⟩ cs10 ∧
  PutRow ⟨h2.size, 0, none⟩ cs10 5 h15 fun h18 =>
  ∃ res6 : List Value, List.length res6 = 5 ∧ Cells h18 ⟨h2.size, 0, none⟩ res6 ∧
  K (.tuple #[.pointer q2, .agg ⟨res6⟩]) h18)))
def bolelaw09_opened (c1 : List Value) (K : Value → Heap → Prop) (h1 : Heap) : Prop :=
  New c1 25 h1 fun h2 =>
  New z29 29 h2 fun h3 =>
  ∃ cs1 : List Value, List.length cs1 = 4 ∧ Cells h3 ⟨h1.size, 0, none⟩ cs1 ∧
  C.bolelaw09_Case_blocks cs1 h3 fun r1 h4 =>
  ∃ (n1 : Int), r1 = .int .i64 n1 ∧
  C.boleref09_Geo n1 h4 fun r2 h5 =>
  ∃ (cs2 : List Value), r2 = .agg ⟨cs2⟩ ∧
  NewRow z29 29 cs2 5 h5 fun h7 =>
  ∃ cs3 : List Value, List.length cs3 = 4 ∧ Cells h7 ⟨h1.size, 0, none⟩ cs3 ∧
  C.bolelaw09_Case_image cs3 h7 fun r3 h8 =>
  ∃ (sA1 : Option Addr) (sL1 : Nat) (sC1 : Nat), r3 = .slice sA1 sL1 sC1 ∧
  C.adisk_Open sA1 sL1 sC1 h8 fun r4 h9 =>
  ∃ (q1 : Option Addr) (n2 : Int), r4 = .tuple #[.pointer q1, .int .i64 n2] ∧
  bif (n2 != 0) then (
  ∃ cs4 : List Value, List.length cs4 = 5 ∧ Cells h9 ⟨h5.size, 0, none⟩ cs4 ∧
  PutRow ⟨h2.size, 0, none⟩ cs4 5 h9 fun h10 =>
  ∃ res1 : List Value, List.length res1 = 5 ∧ Cells h10 ⟨h2.size, 0, none⟩ res1 ∧
  K (.tuple #[.pointer none, .agg ⟨res1⟩]) h10) else (
  bif (Option.isNone q1) then (
  ∃ cs5 : List Value, List.length cs5 = 5 ∧ Cells h9 ⟨h5.size, 0, none⟩ cs5 ∧
  PutRow ⟨h2.size, 0, none⟩ cs5 5 h9 fun h11 =>
  ∃ res2 : List Value, List.length res2 = 5 ∧ Cells h11 ⟨h2.size, 0, none⟩ res2 ∧
  K (.tuple #[.pointer none, .agg ⟨res2⟩]) h11) else (
  bolelaw09_opened.k1 h2 h5 q1 h9 K))
def bolelaw09_opened.lo : Nat → List Nat × List (Nat × Ty) := fun n => match n with | _ => ([], [])
def bolelaw09_opened.od : Nat → Od := fun n => match n with | 4 => (.op 0 [] (.op 1 [] (.op 2 [] .nil))) | 7 => (.op 0 [] (.op 1 [] (.op 2 [] .nil))) | 10 => (.op 0 [] (.op 1 [] (.op 2 [] .nil))) | 11 => (.op 0 [] (.op 1 [] (.op 2 [] (.op 3 [] .nil)))) | _ => .nil
theorem bolelaw09_opened.eq (c1 : List Value) (K : Value → Heap → Prop) (h : Heap) : fnX (cx bolelaw09_opened.lo bolelaw09_opened.od) Try.f6 (Try.f6.body.getD .skip) [.agg ⟨c1⟩] K h = bolelaw09_opened c1 K h := by kernel_rfl
theorem bolelaw09_opened.chk : fnOk (cx bolelaw09_opened.lo bolelaw09_opened.od) Try.f6 (Try.f6.body.getD .skip) 1 = true := by kernel_rfl
theorem bolelaw09_opened.ok {c1 : List Value} {K : Value → Heap → Prop} {h : Heap} (hx : bolelaw09_opened c1 K h) : C.bolelaw09_opened c1 h K :=
  fn_to (cxOk _ _) Try.func6 (by kernel_rfl) bolelaw09_opened.chk (by rw [bolelaw09_opened.eq]; exact hx)

-- 7
def space_Used (t1 : Option Addr) (g1 : List Value) (i1 : Int) (K : Value → Heap → Prop) (h1 : Heap) : Prop :=
  New g1 29 h1 fun h2 =>
  ∃ cs1 : List Value, List.length cs1 = 5 ∧ Cells h2 ⟨h1.size, 0, none⟩ cs1 ∧
  C.space_bit t1 cs1 i1 h2 fun r1 h3 =>
  ∃ (n1 : Int) (sA1 : Option Addr) (sL1 : Nat) (sC1 : Nat) (n2 : Int) (n3 : Int), r1 = .tuple #[.int .i64 n1, .slice sA1 sL1 sC1, .int .i64 n2, .int .i64 n3] ∧
  bif (n3 != 0) then (
  K (.tuple #[.bool false, .int .i64 n3]) h3) else (
  C.bits_Get sA1 sL1 sC1 n2 h3 fun r2 h4 =>
  ∃ (b1 : Bool) (n4 : Int), r2 = .tuple #[.bool b1, .int .i64 n4] ∧
  K (.tuple #[.bool b1, .int .i64 n4]) h4)
def space_Used.lo : Nat → List Nat × List (Nat × Ty) := fun n => match n with | _ => ([], [])
def space_Used.od : Nat → Od := fun n => match n with | _ => .nil
theorem space_Used.eq (t1 : Option Addr) (g1 : List Value) (i1 : Int) (K : Value → Heap → Prop) (h : Heap) : fnX (cx space_Used.lo space_Used.od) Try.f7 (Try.f7.body.getD .skip) [.pointer t1, .agg ⟨g1⟩, .int .i64 i1] K h = space_Used t1 g1 i1 K h := by kernel_rfl
theorem space_Used.chk : fnOk (cx space_Used.lo space_Used.od) Try.f7 (Try.f7.body.getD .skip) 3 = true := by kernel_rfl
theorem space_Used.ok {t1 : Option Addr} {g1 : List Value} {i1 : Int} {K : Value → Heap → Prop} {h : Heap} (hx : space_Used t1 g1 i1 K h) : C.space_Used t1 g1 i1 h K :=
  fn_to (cxOk _ _) Try.func7 (by kernel_rfl) space_Used.chk (by rw [space_Used.eq]; exact hx)

-- 8
def space_Free (t1 : Option Addr) (g1 : List Value) (K : Value → Heap → Prop) (h1 : Heap) : Prop :=
  New g1 29 h1 fun h2 =>
  New z3 3 h2 fun h3 =>
  Put ⟨h2.size, 0, none⟩ (.int .i64 0) h3 fun h4 =>
  ∃ cs1 : List Value, List.length cs1 = 5 ∧ Cells h4 ⟨h1.size, 0, none⟩ cs1 ∧
  C.space_each t1 cs1 (Value.func (.func 26) #[] ⟨[.pointer (some ⟨h1.size, 0, none⟩), .pointer (some ⟨h2.size, 0, none⟩)]⟩) h4 fun r1 h5 =>
  ∃ (n1 : Int), r1 = .int .i64 n1 ∧
  bif (n1 != 0) then (
  K (.tuple #[.int .i64 0, .int .i64 n1]) h5) else (
  ∃ (n2 : Int), cellOf h5 ⟨h2.size, 0, none⟩ = some (.int .i64 n2) ∧
  K (.tuple #[.int .i64 n2, .int .i64 0]) h5)
def space_Free.lo : Nat → List Nat × List (Nat × Ty) := fun n => match n with | _ => ([], [])
def space_Free.od : Nat → Od := fun n => match n with | _ => .nil
theorem space_Free.eq (t1 : Option Addr) (g1 : List Value) (K : Value → Heap → Prop) (h : Heap) : fnX (cx space_Free.lo space_Free.od) Try.f8 (Try.f8.body.getD .skip) [.pointer t1, .agg ⟨g1⟩] K h = space_Free t1 g1 K h := by kernel_rfl
theorem space_Free.chk : fnOk (cx space_Free.lo space_Free.od) Try.f8 (Try.f8.body.getD .skip) 2 = true := by kernel_rfl
theorem space_Free.ok {t1 : Option Addr} {g1 : List Value} {K : Value → Heap → Prop} {h : Heap} (hx : space_Free t1 g1 K h) : C.space_Free t1 g1 h K :=
  fn_to (cxOk _ _) Try.func8 (by kernel_rfl) space_Free.chk (by rw [space_Free.eq]; exact hx)

-- 9
def space_Take (t1 : Option Addr) (g1 : List Value) (K : Value → Heap → Prop) (h1 : Heap) : Prop :=
  New [.pointer t1] 27 h1 fun h2 =>
  New g1 29 h2 fun h3 =>
  New z33 33 h3 fun h4 =>
  New z3 3 h4 fun h5 =>
  Put ⟨h4.size, 0, none⟩ (.int .i64 0) h5 fun h6 =>
  ∃ (q1 : Option Addr), cellOf h6 ⟨h1.size, 0, none⟩ = some (.pointer q1) ∧
  ∃ cs1 : List Value, List.length cs1 = 5 ∧ Cells h6 ⟨h2.size, 0, none⟩ cs1 ∧
  C.space_each q1 cs1 (Value.func (.func 29) #[] ⟨[.pointer (some ⟨h2.size, 0, none⟩), .pointer (some ⟨h4.size, 0, none⟩)]⟩) h6 fun r1 h7 =>
  ∃ (n1 : Int), r1 = .int .i64 n1 ∧
  Put ⟨h3.size, 0, none⟩ (.int .i64 n1) h7 fun h8 =>
  ∃ (n2 : Int), cellOf h8 ⟨h3.size, 0, none⟩ = some (.int .i64 n2) ∧
  bif (n2 != 0) then (
  ∃ (n3 : Int), cellOf h8 ⟨h3.size, 0, none⟩ = some (.int .i64 n3) ∧
  Put ⟨h3.size, 0, none⟩ (.int .i64 n3) h8 fun h9 =>
  ∃ (res1 : Int), cellOf h9 ⟨h3.size, 0, none⟩ = some (.int .i64 res1) ∧
  K (.tuple #[.int .i64 0, .int .i64 res1]) h9) else (
  ∃ (n4 : Int), cellOf h8 ⟨h4.size, 0, none⟩ = some (.int .i64 n4) ∧
  bif (n4 == 0) then (
  Put ⟨h3.size, 0, none⟩ (.int .i64 90) h8 fun h10 =>
  ∃ (res2 : Int), cellOf h10 ⟨h3.size, 0, none⟩ = some (.int .i64 res2) ∧
  K (.tuple #[.int .i64 0, .int .i64 res2]) h10) else (
  ∃ (q2 : Option Addr), cellOf h8 ⟨h1.size, 0, none⟩ = some (.pointer q2) ∧
  C.txn_Txn_Mark q2 h8 fun r2 h11 =>
  ∃ (n5 : Int) (n6 : Int), r2 = .tuple #[.int .i64 n5, .int .i64 n6] ∧
  New z3 3 h11 fun h12 =>
  Put ⟨h11.size, 0, none⟩ (.int .i64 n5) h12 fun h13 =>
  Put ⟨h3.size, 0, none⟩ (.int .i64 n6) h13 fun h14 =>
  ∃ (n7 : Int), cellOf h14 ⟨h3.size, 0, none⟩ = some (.int .i64 n7) ∧
  bif (n7 != 0) then (
  ∃ (n8 : Int), cellOf h14 ⟨h3.size, 0, none⟩ = some (.int .i64 n8) ∧
  Put ⟨h3.size, 0, none⟩ (.int .i64 n8) h14 fun h15 =>
  ∃ (res3 : Int), cellOf h15 ⟨h3.size, 0, none⟩ = some (.int .i64 res3) ∧
  K (.tuple #[.int .i64 0, .int .i64 res3]) h15) else (
  ∃ (q3 : Option Addr), cellOf h14 ⟨h1.size, 0, none⟩ = some (.pointer q3) ∧
  ∃ cs2 : List Value, List.length cs2 = 5 ∧ Cells h14 ⟨h2.size, 0, none⟩ cs2 ∧
  ∃ (n9 : Int), cellOf h14 ⟨h4.size, 0, none⟩ = some (.int .i64 n9) ∧
  C.space_set q3 cs2 n9 true h14 fun r3 h16 =>
  ∃ (n10 : Int), r3 = .int .i64 n10 ∧
  Put ⟨h3.size, 0, none⟩ (.int .i64 n10) h16 fun h17 =>
  ∃ (n11 : Int), cellOf h17 ⟨h3.size, 0, none⟩ = some (.int .i64 n11) ∧
  bif (n11 != 0) then (
  ∃ (n12 : Int), cellOf h17 ⟨h3.size, 0, none⟩ = some (.int .i64 n12) ∧
  Put ⟨h3.size, 0, none⟩ (.int .i64 n12) h17 fun h18 =>
  D.space_Take_c2 (some ⟨h1.size, 0, none⟩) (some ⟨h11.size, 0, none⟩) (some ⟨h3.size, 0, none⟩) h18 fun h19 =>
  ∃ (res4 : Int), cellOf h19 ⟨h3.size, 0, none⟩ = some (.int .i64 res4) ∧
  K (.tuple #[.int .i64 0, .int .i64 res4]) h19) else (
  ∃ (q4 : Option Addr), cellOf h17 ⟨h1.size, 0, none⟩ = some (.pointer q4) ∧
  ∃ (n13 : Int), cellOf h17 ⟨h4.size, 0, none⟩ = some (.int .i64 n13) ∧
  (0 ≤ (512 : Int) ∧ (512 : Int) ≤ 512 ∧ (1 : Int) * 512 ≤ 281474976710656 ∧ (512 : Int) ≤ 281474976710656) ∧
  New (repCells z5 (Int.toNat 512)) 5 h17 fun h20 =>
  (cellOf h20 ⟨h1.size, 0, none⟩ = some (.pointer q4)) ∧
  (cellOf h20 ⟨h4.size, 0, none⟩ = some (.int .i64 n13)) ∧
  C.txn_Txn_Write q4 n13 (some ⟨h17.size, 0, none⟩) (Int.toNat 512) (Int.toNat 512) h20 fun r4 h21 =>
  ∃ (n14 : Int), r4 = .int .i64 n14 ∧
  Put ⟨h3.size, 0, none⟩ (.int .i64 n14) h21 fun h22 =>
  ∃ (n15 : Int), cellOf h22 ⟨h3.size, 0, none⟩ = some (.int .i64 n15) ∧
  bif (n15 != 0) then (
  ∃ (n16 : Int), cellOf h22 ⟨h3.size, 0, none⟩ = some (.int .i64 n16) ∧
  Put ⟨h3.size, 0, none⟩ (.int .i64 n16) h22 fun h23 =>
  D.space_Take_c2 (some ⟨h1.size, 0, none⟩) (some ⟨h11.size, 0, none⟩) (some ⟨h3.size, 0, none⟩) h23 fun h24 =>
  ∃ (res5 : Int), cellOf h24 ⟨h3.size, 0, none⟩ = some (.int .i64 res5) ∧
  K (.tuple #[.int .i64 0, .int .i64 res5]) h24) else (
  ∃ (n17 : Int), cellOf h22 ⟨h4.size, 0, none⟩ = some (.int .i64 n17) ∧
  Put ⟨h3.size, 0, none⟩ (.int .i64 0) h22 fun h25 =>
  D.space_Take_c2 (some ⟨h1.size, 0, none⟩) (some ⟨h11.size, 0, none⟩) (some ⟨h3.size, 0, none⟩) h25 fun h26 =>
  ∃ (res6 : Int), cellOf h26 ⟨h3.size, 0, none⟩ = some (.int .i64 res6) ∧
  K (.tuple #[.int .i64 n17, .int .i64 res6]) h26)))))
def space_Take.lo : Nat → List Nat × List (Nat × Ty) := fun n => match n with | _ => ([], [])
def space_Take.od : Nat → Od := fun n => match n with | 4 => (.op 0 [] (.op 1 [] (.op 2 [] .nil))) | 9 => (.op 0 [] (.op 1 [] (.op 2 [] .nil))) | 13 => (.op 0 [] (.op 1 [] (.op 2 [] .nil))) | 14 => (.op 0 [] (.op 1 [] (.op 2 [0, 1] (.op 3 [] (.op 4 [] .nil))))) | 16 => (.op 0 [] (.op 1 [] (.op 2 [] .nil))) | _ => .nil
theorem space_Take.eq (t1 : Option Addr) (g1 : List Value) (K : Value → Heap → Prop) (h : Heap) : fnX (cx space_Take.lo space_Take.od) Try.f9 (Try.f9.body.getD .skip) [.pointer t1, .agg ⟨g1⟩] K h = space_Take t1 g1 K h := by kernel_rfl
theorem space_Take.chk : fnOk (cx space_Take.lo space_Take.od) Try.f9 (Try.f9.body.getD .skip) 2 = true := by kernel_rfl
theorem space_Take.ok {t1 : Option Addr} {g1 : List Value} {K : Value → Heap → Prop} {h : Heap} (hx : space_Take t1 g1 K h) : C.space_Take t1 g1 h K :=
  fn_to (cxOk _ _) Try.func9 (by kernel_rfl) space_Take.chk (by rw [space_Take.eq]; exact hx)

-- 10
def txn_Txn_Read.k1 (t1 : Option Addr) (i1 : Int) (h3 : Heap) (K : Value → Heap → Prop) : Prop :=
  onSome t1 fun p3 =>
  ∃ (m1 : Option Nat), cellOf h3 (Addr.add p3 1) = some (.map m1) ∧
  MapIn (.int .i64) m1 h3 fun mm1 =>
  ∃ (sA1 : Option Addr) (sL1 : Nat) (sC1 : Nat), Option.getD (mget mm1 (.i i1)) (zeroV ti22) = .slice sA1 sL1 sC1 ∧
  bif (Option.isSome (mget mm1 (.i i1))) then (
  C.slices_Clone_byte_byte sA1 sL1 sC1 h3 fun r2 h4 =>
  ∃ (sA2 : Option Addr) (sL2 : Nat) (sC2 : Nat), r2 = .slice sA2 sL2 sC2 ∧
  K (.tuple #[.slice sA2 sL2 sC2, .int .i64 0]) h4) else (
  onSome t1 fun p4 =>
  ∃ (q2 : Option Addr), cellOf h3 (Addr.add p4 0) = some (.pointer q2) ∧
  C.adisk_Disk_Read q2 i1 h3 fun r3 h5 =>
  ∃ (sA3 : Option Addr) (sL3 : Nat) (sC3 : Nat) (n2 : Int), r3 = .tuple #[.slice sA3 sL3 sC3, .int .i64 n2] ∧
  K (.tuple #[.slice sA3 sL3 sC3, .int .i64 n2]) h5)
def txn_Txn_Read (t1 : Option Addr) (i1 : Int) (K : Value → Heap → Prop) (h1 : Heap) : Prop :=
  onSome t1 fun p1 =>
  ∃ (b1 : Bool), cellOf h1 (Addr.add p1 3) = some (.bool b1) ∧
  bif b1 then (
  K (.tuple #[.slice none 0 0, .int .i64 61]) h1) else (
  bif (decide (i1 < 0)) then (
  K (.tuple #[.slice none 0 0, .int .i64 31]) h1) else (
  onSome t1 fun p2 =>
  ∃ (q1 : Option Addr), cellOf h1 (Addr.add p2 0) = some (.pointer q1) ∧
  C.adisk_Disk_Blocks q1 h1 fun r1 h2 =>
  ∃ (n1 : Int), r1 = .int .i64 n1 ∧
  bif (decide (i1 ≥ n1)) then (
  K (.tuple #[.slice none 0 0, .int .i64 31]) h2) else (
  txn_Txn_Read.k1 t1 i1 h2 K)))
def txn_Txn_Read.lo : Nat → List Nat × List (Nat × Ty) := fun n => match n with | _ => ([], [])
def txn_Txn_Read.od : Nat → Od := fun n => match n with | _ => .nil
theorem txn_Txn_Read.eq (t1 : Option Addr) (i1 : Int) (K : Value → Heap → Prop) (h : Heap) : fnX (cx txn_Txn_Read.lo txn_Txn_Read.od) Try.f10 (Try.f10.body.getD .skip) [.pointer t1, .int .i64 i1] K h = txn_Txn_Read t1 i1 K h := by kernel_rfl
theorem txn_Txn_Read.chk : fnOk (cx txn_Txn_Read.lo txn_Txn_Read.od) Try.f10 (Try.f10.body.getD .skip) 2 = true := by kernel_rfl
theorem txn_Txn_Read.ok {t1 : Option Addr} {i1 : Int} {K : Value → Heap → Prop} {h : Heap} (hx : txn_Txn_Read t1 i1 K h) : C.txn_Txn_Read t1 i1 h K :=
  fn_to (cxOk _ _) Try.func10 (by kernel_rfl) txn_Txn_Read.chk (by rw [txn_Txn_Read.eq]; exact hx)

-- 11
def bolelaw09_block (x1 : Int) (K : Value → Heap → Prop) (h1 : Heap) : Prop :=
  (0 ≤ (512 : Int) ∧ (512 : Int) ≤ 512 ∧ (1 : Int) * 512 ≤ 281474976710656 ∧ (512 : Int) ≤ 281474976710656) ∧
  New (repCells z5 (Int.toNat 512)) 5 h1 fun h2 =>
  ∃ (I1 : Int → Heap → Prop) (M1 : Int → Heap → Nat), I1 0 h2 ∧
  ∀ (n1 : Int), ∀ h3 : Heap, I1 n1 h3 →
  bif (decide (n1 < ((Int.toNat 512) : Int))) then (
  (0 ≤ n1 ∧ n1 < ((Int.toNat 512) : Int)) ∧
  Put (Addr.add ⟨h1.size, 0, none⟩ (Int.toNat n1)) (.int .u8 x1) h3 fun h4 =>
  I1 (IntKind.wrap .i64 (n1 + 1)) h4 ∧ M1 (IntKind.wrap .i64 (n1 + 1)) h4 < M1 n1 h3) else (
  K (.slice (some ⟨h1.size, 0, none⟩) (Int.toNat 512) (Int.toNat 512)) h3)
def bolelaw09_block.lo : Nat → List Nat × List (Nat × Ty) := fun n => match n with | 3 => ([0, 3, 7], [(8, .int .i64)]) | _ => ([], [])
def bolelaw09_block.od : Nat → Od := fun n => match n with | _ => .nil
theorem bolelaw09_block.eq (x1 : Int) (K : Value → Heap → Prop) (h : Heap) : fnX (cx bolelaw09_block.lo bolelaw09_block.od) Try.f11 (Try.f11.body.getD .skip) [.int .u8 x1] K h = bolelaw09_block x1 K h := by kernel_rfl
theorem bolelaw09_block.chk : fnOk (cx bolelaw09_block.lo bolelaw09_block.od) Try.f11 (Try.f11.body.getD .skip) 1 = true := by kernel_rfl
theorem bolelaw09_block.ok {x1 : Int} {K : Value → Heap → Prop} {h : Heap} (hx : bolelaw09_block x1 K h) : C.bolelaw09_block x1 h K :=
  fn_to (cxOk _ _) Try.func11 (by kernel_rfl) bolelaw09_block.chk (by rw [bolelaw09_block.eq]; exact hx)

-- 12
def txn_Txn_Written (t1 : Option Addr) (K : Value → Heap → Prop) (h1 : Heap) : Prop :=
  onSome t1 fun p1 =>
  ∃ (b1 : Bool), cellOf h1 (Addr.add p1 3) = some (.bool b1) ∧
  bif b1 then (
  K (.slice none 0 0) h1) else (
  onSome t1 fun p2 =>
  ∃ (m1 : Option Nat), cellOf h1 (Addr.add p2 1) = some (.map m1) ∧
  C.maps_Keys_map_int_byte_int_byte m1 h1 fun r1 h2 =>
  ∃ (v1 : Value), r1 = v1 ∧
  C.slices_Sorted_int v1 h2 fun r2 h3 =>
  ∃ (sA1 : Option Addr) (sL1 : Nat) (sC1 : Nat), r2 = .slice sA1 sL1 sC1 ∧
  K (.slice sA1 sL1 sC1) h3)
def txn_Txn_Written.lo : Nat → List Nat × List (Nat × Ty) := fun n => match n with | _ => ([], [])
def txn_Txn_Written.od : Nat → Od := fun n => match n with | _ => .nil
theorem txn_Txn_Written.eq (t1 : Option Addr) (K : Value → Heap → Prop) (h : Heap) : fnX (cx txn_Txn_Written.lo txn_Txn_Written.od) Try.f12 (Try.f12.body.getD .skip) [.pointer t1] K h = txn_Txn_Written t1 K h := by kernel_rfl
theorem txn_Txn_Written.chk : fnOk (cx txn_Txn_Written.lo txn_Txn_Written.od) Try.f12 (Try.f12.body.getD .skip) 1 = true := by kernel_rfl
theorem txn_Txn_Written.ok {t1 : Option Addr} {K : Value → Heap → Prop} {h : Heap} (hx : txn_Txn_Written t1 K h) : C.txn_Txn_Written t1 h K :=
  fn_to (cxOk _ _) Try.func12 (by kernel_rfl) txn_Txn_Written.chk (by rw [txn_Txn_Written.eq]; exact hx)

-- 13
def bolelaw09_taken (lA1 : Option Addr) (lL1 : Nat) (lC1 : Nat) (K : Value → Heap → Prop) (h1 : Heap) : Prop :=
  bif (decide ((lL1 : Int) > 0)) then (
  K (.int .i64 1) h1) else (
  K (.int .i64 0) h1)
def bolelaw09_taken.lo : Nat → List Nat × List (Nat × Ty) := fun n => match n with | _ => ([], [])
def bolelaw09_taken.od : Nat → Od := fun n => match n with | _ => .nil
theorem bolelaw09_taken.eq (lA1 : Option Addr) (lL1 : Nat) (lC1 : Nat) (K : Value → Heap → Prop) (h : Heap) : fnX (cx bolelaw09_taken.lo bolelaw09_taken.od) Try.f13 (Try.f13.body.getD .skip) [.slice lA1 lL1 lC1] K h = bolelaw09_taken lA1 lL1 lC1 K h := by kernel_rfl
theorem bolelaw09_taken.chk : fnOk (cx bolelaw09_taken.lo bolelaw09_taken.od) Try.f13 (Try.f13.body.getD .skip) 1 = true := by kernel_rfl
theorem bolelaw09_taken.ok {lA1 : Option Addr} {lL1 : Nat} {lC1 : Nat} {K : Value → Heap → Prop} {h : Heap} (hx : bolelaw09_taken lA1 lL1 lC1 K h) : C.bolelaw09_taken lA1 lL1 lC1 h K :=
  fn_to (cxOk _ _) Try.func13 (by kernel_rfl) bolelaw09_taken.chk (by rw [bolelaw09_taken.eq]; exact hx)

-- 14
def space_Give.k1 (t1 : Option Addr) (i1 : Int) (h1 : Heap) (h2 : Heap) (K : Value → Heap → Prop) : Prop :=
  ∃ cs1 : List Value, List.length cs1 = 5 ∧ Cells h2 ⟨h1.size, 0, none⟩ cs1 ∧
  C.space_Used t1 cs1 i1 h2 fun r1 h3 =>
  ∃ (b1 : Bool) (n3 : Int), r1 = .tuple #[.bool b1, .int .i64 n3] ∧
  bif (n3 != 0) then (
  K (.int .i64 n3) h3) else (
  bif (!b1) then (
  K (.int .i64 91) h3) else (
  ∃ cs2 : List Value, List.length cs2 = 5 ∧ Cells h3 ⟨h1.size, 0, none⟩ cs2 ∧
  C.space_set t1 cs2 i1 false h3 fun r2 h4 =>
  ∃ (n4 : Int), r2 = .int .i64 n4 ∧
  K (.int .i64 n4) h4))
def space_Give (t1 : Option Addr) (g1 : List Value) (i1 : Int) (K : Value → Heap → Prop) (h1 : Heap) : Prop :=
  New g1 29 h1 fun h2 =>
  ∃ (n1 : Int), cellOf h2 (Addr.add ⟨h1.size, 0, none⟩ 3) = some (.int .i64 n1) ∧
  bif (decide (i1 < n1)) then (
  K (.int .i64 91) h2) else (
  ∃ (n2 : Int), cellOf h2 (Addr.add ⟨h1.size, 0, none⟩ 0) = some (.int .i64 n2) ∧
  bif (decide (i1 ≥ n2)) then (
  K (.int .i64 91) h2) else (
  space_Give.k1 t1 i1 h1 h2 K))
def space_Give.lo : Nat → List Nat × List (Nat × Ty) := fun n => match n with | _ => ([], [])
def space_Give.od : Nat → Od := fun n => match n with | _ => .nil
theorem space_Give.eq (t1 : Option Addr) (g1 : List Value) (i1 : Int) (K : Value → Heap → Prop) (h : Heap) : fnX (cx space_Give.lo space_Give.od) Try.f14 (Try.f14.body.getD .skip) [.pointer t1, .agg ⟨g1⟩, .int .i64 i1] K h = space_Give t1 g1 i1 K h := by kernel_rfl
theorem space_Give.chk : fnOk (cx space_Give.lo space_Give.od) Try.f14 (Try.f14.body.getD .skip) 3 = true := by kernel_rfl
theorem space_Give.ok {t1 : Option Addr} {g1 : List Value} {i1 : Int} {K : Value → Heap → Prop} {h : Heap} (hx : space_Give t1 g1 i1 K h) : C.space_Give t1 g1 i1 h K :=
  fn_to (cxOk _ _) Try.func14 (by kernel_rfl) space_Give.chk (by rw [space_Give.eq]; exact hx)

-- 15
def txn_Txn_Back.k1 (t1 : Option Addr) (mark1 : Int) (h1 : Heap) (K : Value → Heap → Prop) : Prop :=
  onSome t1 fun p3 =>
  ∃ (sA2 : Option Addr) (sL2 : Nat) (sC2 : Nat), cellOf h1 (Addr.add p3 2) = some (.slice sA2 sL2 sC2) ∧
  ∃ (I1 : Int → Heap → Prop) (M1 : Int → Heap → Nat), I1 (IntKind.wrap .i64 ((sL2 : Int) - 1)) h1 ∧
  ∀ (k1 : Int), ∀ h2 : Heap, I1 k1 h2 →
  bif (decide (k1 ≥ mark1)) then (
  onSome t1 fun p4 =>
  ∃ (sA3 : Option Addr) (sL3 : Nat) (sC3 : Nat), cellOf h2 (Addr.add p4 2) = some (.slice sA3 sL3 sC3) ∧
  (0 ≤ k1 ∧ k1 < (sL3 : Int)) ∧
  onSome sA3 fun p5 =>
  ∃ (v1 : Value), cellOf h2 (Addr.add p5 (Int.toNat k1)) = some (v1) ∧
  HCallsV Try.prog v1 [] h2 fun r1 h3 =>
  r1 = .tuple #[] ∧
  I1 (IntKind.wrap .i64 (k1 - 1)) h3 ∧ M1 (IntKind.wrap .i64 (k1 - 1)) h3 < M1 k1 h2) else (
  onSome t1 fun p6 =>
  ∃ (sA4 : Option Addr) (sL4 : Nat) (sC4 : Nat), cellOf h2 (Addr.add p6 2) = some (.slice sA4 sL4 sC4) ∧
  (0 ≤ mark1 ∧ mark1 ≤ (sC4 : Int)) ∧
  onSome t1 fun p7 =>
  Put (Addr.add p7 2) (.slice sA4 (Int.toNat mark1) sC4) h2 fun h4 =>
  K (.int .i64 0) h4)
def txn_Txn_Back (t1 : Option Addr) (mark1 : Int) (K : Value → Heap → Prop) (h1 : Heap) : Prop :=
  onSome t1 fun p1 =>
  ∃ (b1 : Bool), cellOf h1 (Addr.add p1 3) = some (.bool b1) ∧
  bif b1 then (
  K (.int .i64 61) h1) else (
  bif (decide (mark1 < 0)) then (
  K (.int .i64 62) h1) else (
  onSome t1 fun p2 =>
  ∃ (sA1 : Option Addr) (sL1 : Nat) (sC1 : Nat), cellOf h1 (Addr.add p2 2) = some (.slice sA1 sL1 sC1) ∧
  bif (decide (mark1 > (sL1 : Int))) then (
  K (.int .i64 62) h1) else (
  txn_Txn_Back.k1 t1 mark1 h1 K)))
def txn_Txn_Back.lo : Nat → List Nat × List (Nat × Ty) := fun n => match n with | 6 => ([0, 1], [(5, .int .i64)]) | _ => ([], [])
def txn_Txn_Back.od : Nat → Od := fun n => match n with | _ => .nil
theorem txn_Txn_Back.eq (t1 : Option Addr) (mark1 : Int) (K : Value → Heap → Prop) (h : Heap) : fnX (cx txn_Txn_Back.lo txn_Txn_Back.od) Try.f15 (Try.f15.body.getD .skip) [.pointer t1, .int .i64 mark1] K h = txn_Txn_Back t1 mark1 K h := by kernel_rfl
theorem txn_Txn_Back.chk : fnOk (cx txn_Txn_Back.lo txn_Txn_Back.od) Try.f15 (Try.f15.body.getD .skip) 2 = true := by kernel_rfl
theorem txn_Txn_Back.ok {t1 : Option Addr} {mark1 : Int} {K : Value → Heap → Prop} {h : Heap} (hx : txn_Txn_Back t1 mark1 K h) : C.txn_Txn_Back t1 mark1 h K :=
  fn_to (cxOk _ _) Try.func15 (by kernel_rfl) txn_Txn_Back.chk (by rw [txn_Txn_Back.eq]; exact hx)

-- 16
def txn_Txn_Mark (t1 : Option Addr) (K : Value → Heap → Prop) (h1 : Heap) : Prop :=
  onSome t1 fun p1 =>
  ∃ (b1 : Bool), cellOf h1 (Addr.add p1 3) = some (.bool b1) ∧
  bif b1 then (
  K (.tuple #[.int .i64 0, .int .i64 61]) h1) else (
  onSome t1 fun p2 =>
  ∃ (sA1 : Option Addr) (sL1 : Nat) (sC1 : Nat), cellOf h1 (Addr.add p2 2) = some (.slice sA1 sL1 sC1) ∧
  K (.tuple #[.int .i64 (sL1 : Int), .int .i64 0]) h1)
def txn_Txn_Mark.lo : Nat → List Nat × List (Nat × Ty) := fun n => match n with | _ => ([], [])
def txn_Txn_Mark.od : Nat → Od := fun n => match n with | _ => .nil
theorem txn_Txn_Mark.eq (t1 : Option Addr) (K : Value → Heap → Prop) (h : Heap) : fnX (cx txn_Txn_Mark.lo txn_Txn_Mark.od) Try.f16 (Try.f16.body.getD .skip) [.pointer t1] K h = txn_Txn_Mark t1 K h := by kernel_rfl
theorem txn_Txn_Mark.chk : fnOk (cx txn_Txn_Mark.lo txn_Txn_Mark.od) Try.f16 (Try.f16.body.getD .skip) 1 = true := by kernel_rfl
theorem txn_Txn_Mark.ok {t1 : Option Addr} {K : Value → Heap → Prop} {h : Heap} (hx : txn_Txn_Mark t1 K h) : C.txn_Txn_Mark t1 h K :=
  fn_to (cxOk _ _) Try.func16 (by kernel_rfl) txn_Txn_Mark.chk (by rw [txn_Txn_Mark.eq]; exact hx)

-- 17
def txn_Txn_Write.k1 (bA1 : Option Addr) (bL1 : Nat) (bC1 : Nat) (h1 : Heap) (h2 : Heap) (was1 : Option Addr) (ok1 : Option Addr) (h8 : Heap) (K : Value → Heap → Prop) : Prop :=
  ∃ (q2 : Option Addr), cellOf h8 ⟨h1.size, 0, none⟩ = some (.pointer q2) ∧
  onSome q2 fun p2 =>
  ∃ (b1 : Bool), cellOf h8 (Addr.add p2 3) = some (.bool b1) ∧
  bif b1 then (
  K (.int .i64 61) h8) else (
  ∃ (n2 : Int), cellOf h8 ⟨h2.size, 0, none⟩ = some (.int .i64 n2) ∧
  bif (decide (n2 < 98)) then (
  K (.int .i64 31) h8) else (
  ∃ (n3 : Int), cellOf h8 ⟨h2.size, 0, none⟩ = some (.int .i64 n3) ∧
  ∃ (q3 : Option Addr), cellOf h8 ⟨h1.size, 0, none⟩ = some (.pointer q3) ∧
  onSome q3 fun p3 =>
  ∃ (q4 : Option Addr), cellOf h8 (Addr.add p3 0) = some (.pointer q4) ∧
  C.adisk_Disk_Blocks q4 h8 fun r1 h9 =>
  ∃ (n4 : Int), r1 = .int .i64 n4 ∧
  (cellOf h9 ⟨h2.size, 0, none⟩ = some (.int .i64 n3)) ∧
  bif (decide (n3 ≥ n4)) then (
  K (.int .i64 31) h9) else (
  bif ((bL1 : Int) != 512) then (
  K (.int .i64 32) h9) else (
  onSome ok1 fun p4 =>
  ∃ (b2 : Bool), cellOf h9 p4 = some (.bool b2) ∧
  bif (!b2) then (
  ∃ (q5 : Option Addr), cellOf h9 ⟨h1.size, 0, none⟩ = some (.pointer q5) ∧
  onSome q5 fun p5 =>
  ∃ (m2 : Option Nat), cellOf h9 (Addr.add p5 1) = some (.map m2) ∧
  MapIn (.int .i64) m2 h9 fun mm2 =>
  bif (decide ((List.length mm2 : Int) ≥ 96)) then (
  K (.int .i64 60) h9) else (
  ∃ (q6 : Option Addr), cellOf h9 ⟨h1.size, 0, none⟩ = some (.pointer q6) ∧
  ∃ (q7 : Option Addr), cellOf h9 ⟨h1.size, 0, none⟩ = some (.pointer q7) ∧
  onSome q7 fun p6 =>
  ∃ (sA2 : Option Addr) (sL2 : Nat) (sC2 : Nat), cellOf h9 (Addr.add p6 2) = some (.slice sA2 sL2 sC2) ∧
  New [.func (.func 39) #[] ⟨[.pointer ok1, .pointer was1, .pointer (some ⟨h1.size, 0, none⟩), .pointer (some ⟨h2.size, 0, none⟩)]⟩] 1 h9 fun h10 =>
  (cellOf h10 ⟨h1.size, 0, none⟩ = some (.pointer q6)) ∧
  (cellOf h10 ⟨h1.size, 0, none⟩ = some (.pointer q7)) ∧
  (cellOf h10 (Addr.add p6 2) = some (.slice sA2 sL2 sC2)) ∧
  ∃ new1 : List Value, List.length new1 = 1 * 1 ∧ SlCells h10 (some ⟨h9.size, 0, none⟩) new1 ∧ (∀ v ∈ new1, v.oneCell' = true) ∧
  AppendP ti1 1 sA2 sL2 sC2 1 new1 h10 fun sA3 sL3 sC3 h11 =>
  (cellOf h11 ⟨h1.size, 0, none⟩ = some (.pointer q6)) ∧
  onSome q6 fun p7 =>
  Put (Addr.add p7 2) (.slice sA3 sL3 sC3) h11 fun h12 =>
  ∃ (q8 : Option Addr), cellOf h12 ⟨h1.size, 0, none⟩ = some (.pointer q8) ∧
  onSome q8 fun p8 =>
  ∃ (m3 : Option Nat), cellOf h12 (Addr.add p8 1) = some (.map m3) ∧
  ∃ (n5 : Int), cellOf h12 ⟨h2.size, 0, none⟩ = some (.int .i64 n5) ∧
  C.slices_Clone_byte_byte bA1 bL1 bC1 h12 fun r2 h13 =>
  ∃ (sA4 : Option Addr) (sL4 : Nat) (sC4 : Nat), r2 = .slice sA4 sL4 sC4 ∧
  (cellOf h13 ⟨h1.size, 0, none⟩ = some (.pointer q8)) ∧
  (cellOf h13 (Addr.add p8 1) = some (.map m3)) ∧
  (cellOf h13 ⟨h2.size, 0, none⟩ = some (.int .i64 n5)) ∧
  onSome m3 fun r3 =>
  MapPut (.int .i64) r3 (.i n5) (.slice sA4 sL4 sC4) h13 fun h14 =>
  K (.int .i64 0) h14)) else (
  ∃ (q9 : Option Addr), cellOf h9 ⟨h1.size, 0, none⟩ = some (.pointer q9) ∧
  ∃ (q10 : Option Addr), cellOf h9 ⟨h1.size, 0, none⟩ = some (.pointer q10) ∧
  onSome q10 fun p9 =>
  ∃ (sA5 : Option Addr) (sL5 : Nat) (sC5 : Nat), cellOf h9 (Addr.add p9 2) = some (.slice sA5 sL5 sC5) ∧
  New [.func (.func 39) #[] ⟨[.pointer ok1, .pointer was1, .pointer (some ⟨h1.size, 0, none⟩), .pointer (some ⟨h2.size, 0, none⟩)]⟩] 1 h9 fun h15 =>
  (cellOf h15 ⟨h1.size, 0, none⟩ = some (.pointer q9)) ∧
  (cellOf h15 ⟨h1.size, 0, none⟩ = some (.pointer q10)) ∧
  (cellOf h15 (Addr.add p9 2) = some (.slice sA5 sL5 sC5)) ∧
  ∃ new2 : List Value, List.length new2 = 1 * 1 ∧ SlCells h15 (some ⟨h9.size, 0, none⟩) new2 ∧ (∀ v ∈ new2, v.oneCell' = true) ∧
  AppendP ti1 1 sA5 sL5 sC5 1 new2 h15 fun sA6 sL6 sC6 h16 =>
  (cellOf h16 ⟨h1.size, 0, none⟩ = some (.pointer q9)) ∧
  onSome q9 fun p10 =>
  Put (Addr.add p10 2) (.slice sA6 sL6 sC6) h16 fun h17 =>
  ∃ (q11 : Option Addr), cellOf h17 ⟨h1.size, 0, none⟩ = some (.pointer q11) ∧
  onSome q11 fun p11 =>
  ∃ (m4 : Option Nat), cellOf h17 (Addr.add p11 1) = some (.map m4) ∧
  ∃ (n6 : Int), cellOf h17 ⟨h2.size, 0, none⟩ = some (.int .i64 n6) ∧
  C.slices_Clone_byte_byte bA1 bL1 bC1 h17 fun r4 h18 =>
  ∃ (sA7 : Option Addr) (sL7 : Nat) (sC7 : Nat), r4 = .slice sA7 sL7 sC7 ∧
  (cellOf h18 ⟨h1.size, 0, none⟩ = some (.pointer q11)) ∧
  (cellOf h18 (Addr.add p11 1) = some (.map m4)) ∧
  (cellOf h18 ⟨h2.size, 0, none⟩ = some (.int .i64 n6)) ∧
  onSome m4 fun r5 =>
  MapPut (.int .i64) r5 (.i n6) (.slice sA7 sL7 sC7) h18 fun h19 =>
  K (.int .i64 0) h19)))))
def txn_Txn_Write (t1 : Option Addr) (i1 : Int) (bA1 : Option Addr) (bL1 : Nat) (bC1 : Nat) (K : Value → Heap → Prop) (h1 : Heap) : Prop :=
  New [.pointer t1] 27 h1 fun h2 =>
  New [.int .i64 i1] 3 h2 fun h3 =>
  ∃ (q1 : Option Addr), cellOf h3 ⟨h1.size, 0, none⟩ = some (.pointer q1) ∧
  onSome q1 fun p1 =>
  ∃ (m1 : Option Nat), cellOf h3 (Addr.add p1 1) = some (.map m1) ∧
  ∃ (n1 : Int), cellOf h3 ⟨h2.size, 0, none⟩ = some (.int .i64 n1) ∧
  (
  MapIn (.int .i64) m1 h3 fun mm1 =>
  ∃ (sA1 : Option Addr) (sL1 : Nat) (sC1 : Nat), Option.getD (mget mm1 (.i n1)) (zeroV ti22) = .slice sA1 sL1 sC1 ∧
  (
  New z22 22 h3 fun h4 =>
  (cellOf h4 ⟨h1.size, 0, none⟩ = some (.pointer q1)) ∧
  (cellOf h4 (Addr.add p1 1) = some (.map m1)) ∧
  (cellOf h4 ⟨h2.size, 0, none⟩ = some (.int .i64 n1)) ∧
  New z4 4 h4 fun h5 =>
  (cellOf h5 ⟨h1.size, 0, none⟩ = some (.pointer q1)) ∧
  (cellOf h5 (Addr.add p1 1) = some (.map m1)) ∧
  (cellOf h5 ⟨h2.size, 0, none⟩ = some (.int .i64 n1)) ∧
  Put ⟨h3.size, 0, none⟩ (.slice sA1 sL1 sC1) h5 fun h6 =>
  Put ⟨h4.size, 0, none⟩ (.bool (Option.isSome (mget mm1 (.i n1)))) h6 fun h7 =>
  txn_Txn_Write.k1 bA1 bL1 bC1 h1 h2 (some ⟨h3.size, 0, none⟩) (some ⟨h4.size, 0, none⟩) h7 K) ∧
  New z4 4 h3 fun h20 =>
  (cellOf h20 ⟨h1.size, 0, none⟩ = some (.pointer q1)) ∧
  (cellOf h20 (Addr.add p1 1) = some (.map m1)) ∧
  (cellOf h20 ⟨h2.size, 0, none⟩ = some (.int .i64 n1)) ∧
  New z22 22 h20 fun h21 =>
  (cellOf h21 ⟨h1.size, 0, none⟩ = some (.pointer q1)) ∧
  (cellOf h21 (Addr.add p1 1) = some (.map m1)) ∧
  (cellOf h21 ⟨h2.size, 0, none⟩ = some (.int .i64 n1)) ∧
  Put ⟨h20.size, 0, none⟩ (.slice sA1 sL1 sC1) h21 fun h22 =>
  Put ⟨h3.size, 0, none⟩ (.bool (Option.isSome (mget mm1 (.i n1)))) h22 fun h23 =>
  txn_Txn_Write.k1 bA1 bL1 bC1 h1 h2 (some ⟨h20.size, 0, none⟩) (some ⟨h3.size, 0, none⟩) h23 K) ∧
  (
  New z22 22 h3 fun h24 =>
  (cellOf h24 ⟨h1.size, 0, none⟩ = some (.pointer q1)) ∧
  (cellOf h24 (Addr.add p1 1) = some (.map m1)) ∧
  (cellOf h24 ⟨h2.size, 0, none⟩ = some (.int .i64 n1)) ∧
  (
  MapIn (.int .i64) m1 h24 fun mm3 =>
  ∃ (sA8 : Option Addr) (sL8 : Nat) (sC8 : Nat), Option.getD (mget mm3 (.i n1)) (zeroV ti22) = .slice sA8 sL8 sC8 ∧
  New z4 4 h24 fun h25 =>
  (cellOf h25 ⟨h1.size, 0, none⟩ = some (.pointer q1)) ∧
  (cellOf h25 (Addr.add p1 1) = some (.map m1)) ∧
  (cellOf h25 ⟨h2.size, 0, none⟩ = some (.int .i64 n1)) ∧
  Put ⟨h3.size, 0, none⟩ (.slice sA8 sL8 sC8) h25 fun h26 =>
  Put ⟨h24.size, 0, none⟩ (.bool (Option.isSome (mget mm3 (.i n1)))) h26 fun h27 =>
  txn_Txn_Write.k1 bA1 bL1 bC1 h1 h2 (some ⟨h3.size, 0, none⟩) (some ⟨h24.size, 0, none⟩) h27 K) ∧
  New z4 4 h24 fun h28 =>
  (cellOf h28 ⟨h1.size, 0, none⟩ = some (.pointer q1)) ∧
  (cellOf h28 (Addr.add p1 1) = some (.map m1)) ∧
  (cellOf h28 ⟨h2.size, 0, none⟩ = some (.int .i64 n1)) ∧
  MapIn (.int .i64) m1 h28 fun mm4 =>
  ∃ (sA9 : Option Addr) (sL9 : Nat) (sC9 : Nat), Option.getD (mget mm4 (.i n1)) (zeroV ti22) = .slice sA9 sL9 sC9 ∧
  Put ⟨h3.size, 0, none⟩ (.slice sA9 sL9 sC9) h28 fun h29 =>
  Put ⟨h24.size, 0, none⟩ (.bool (Option.isSome (mget mm4 (.i n1)))) h29 fun h30 =>
  txn_Txn_Write.k1 bA1 bL1 bC1 h1 h2 (some ⟨h3.size, 0, none⟩) (some ⟨h24.size, 0, none⟩) h30 K) ∧
  New z4 4 h3 fun h31 =>
  (cellOf h31 ⟨h1.size, 0, none⟩ = some (.pointer q1)) ∧
  (cellOf h31 (Addr.add p1 1) = some (.map m1)) ∧
  (cellOf h31 ⟨h2.size, 0, none⟩ = some (.int .i64 n1)) ∧
  (
  MapIn (.int .i64) m1 h31 fun mm5 =>
  ∃ (sA10 : Option Addr) (sL10 : Nat) (sC10 : Nat), Option.getD (mget mm5 (.i n1)) (zeroV ti22) = .slice sA10 sL10 sC10 ∧
  New z22 22 h31 fun h32 =>
  (cellOf h32 ⟨h1.size, 0, none⟩ = some (.pointer q1)) ∧
  (cellOf h32 (Addr.add p1 1) = some (.map m1)) ∧
  (cellOf h32 ⟨h2.size, 0, none⟩ = some (.int .i64 n1)) ∧
  Put ⟨h31.size, 0, none⟩ (.slice sA10 sL10 sC10) h32 fun h33 =>
  Put ⟨h3.size, 0, none⟩ (.bool (Option.isSome (mget mm5 (.i n1)))) h33 fun h34 =>
  txn_Txn_Write.k1 bA1 bL1 bC1 h1 h2 (some ⟨h31.size, 0, none⟩) (some ⟨h3.size, 0, none⟩) h34 K) ∧
  New z22 22 h31 fun h35 =>
  (cellOf h35 ⟨h1.size, 0, none⟩ = some (.pointer q1)) ∧
  (cellOf h35 (Addr.add p1 1) = some (.map m1)) ∧
  (cellOf h35 ⟨h2.size, 0, none⟩ = some (.int .i64 n1)) ∧
  MapIn (.int .i64) m1 h35 fun mm6 =>
  ∃ (sA11 : Option Addr) (sL11 : Nat) (sC11 : Nat), Option.getD (mget mm6 (.i n1)) (zeroV ti22) = .slice sA11 sL11 sC11 ∧
  Put ⟨h31.size, 0, none⟩ (.slice sA11 sL11 sC11) h35 fun h36 =>
  Put ⟨h3.size, 0, none⟩ (.bool (Option.isSome (mget mm6 (.i n1)))) h36 fun h37 =>
  txn_Txn_Write.k1 bA1 bL1 bC1 h1 h2 (some ⟨h31.size, 0, none⟩) (some ⟨h3.size, 0, none⟩) h37 K
def txn_Txn_Write.lo : Nat → List Nat × List (Nat × Ty) := fun n => match n with | _ => ([], [])
set_option maxRecDepth 100000 in
def txn_Txn_Write.od : Nat → Od := fun n => match n with | 1 => (.op 0 [] (.op 1 [] (.op 2 [] (.op 3 [] (.op 4 [] (.alt 5 [] (.op 6 [] (.op 7 [] (.op 8 [] (.alt 9 [0, 3, 4] (.op 10 [0, 3, 4] (.op 11 [] (.op 12 [] .nil))) (.op 10 [0, 3, 4] (.op 9 [0, 3, 4] (.op 11 [] (.op 12 [] .nil)))))))) (.alt 9 [0, 3, 4] (.alt 5 [] (.op 6 [] (.op 7 [] (.op 8 [] (.op 10 [0, 3, 4] (.op 11 [] (.op 12 [] .nil)))))) (.op 10 [0, 3, 4] (.op 5 [] (.op 6 [] (.op 7 [] (.op 8 [] (.op 11 [] (.op 12 [] .nil)))))))) (.op 10 [0, 3, 4] (.alt 5 [] (.op 6 [] (.op 7 [] (.op 8 [] (.op 9 [0, 3, 4] (.op 11 [] (.op 12 [] .nil)))))) (.op 9 [0, 3, 4] (.op 5 [] (.op 6 [] (.op 7 [] (.op 8 [] (.op 11 [] (.op 12 [] .nil)))))))))))))))) | 4 => (.op 0 [] (.op 1 [] (.op 2 [] (.op 3 [] (.op 4 [] (.op 5 [] (.op 6 [] (.op 7 [] (.op 8 [3] (.op 9 [] (.op 10 [] (.op 11 [] .nil)))))))))))) | 10 => (.op 0 [] (.op 1 [] (.op 2 [] (.op 3 [] (.op 4 [] (.op 5 [] (.op 6 [0, 1, 4] (.op 7 [0] (.op 8 [] (.op 9 [] (.op 10 [] .nil))))))))))) | 11 => (.op 0 [] (.op 1 [] (.op 2 [] (.op 3 [] (.op 4 [] (.op 5 [] (.op 6 [0, 3, 4] (.op 7 [] .nil)))))))) | _ => .nil
set_option maxRecDepth 100000 in
theorem txn_Txn_Write.eq (t1 : Option Addr) (i1 : Int) (bA1 : Option Addr) (bL1 : Nat) (bC1 : Nat) (K : Value → Heap → Prop) (h : Heap) : fnX (cx txn_Txn_Write.lo txn_Txn_Write.od) Try.f17 (Try.f17.body.getD .skip) [.pointer t1, .int .i64 i1, .slice bA1 bL1 bC1] K h = txn_Txn_Write t1 i1 bA1 bL1 bC1 K h := by kernel_rfl
theorem txn_Txn_Write.chk : fnOk (cx txn_Txn_Write.lo txn_Txn_Write.od) Try.f17 (Try.f17.body.getD .skip) 3 = true := by kernel_rfl
set_option maxRecDepth 100000 in
theorem txn_Txn_Write.ok {t1 : Option Addr} {i1 : Int} {bA1 : Option Addr} {bL1 : Nat} {bC1 : Nat} {K : Value → Heap → Prop} {h : Heap} (hx : txn_Txn_Write t1 i1 bA1 bL1 bC1 K h) : C.txn_Txn_Write t1 i1 bA1 bL1 bC1 h K :=
  fn_to (cxOk _ _) Try.func17 (by kernel_rfl) txn_Txn_Write.chk (by rw [txn_Txn_Write.eq]; exact hx)

-- 18
def boleref09_Geo (n1 : Int) (K : Value → Heap → Prop) (h1 : Heap) : Prop :=
  NewRow z29 29 [.int .i64 n1, .int .i64 98, .int .i64 (IntKind.wrap .i64 (98 + (IntKind.wrap .i64 (Int.tdiv (IntKind.wrap .i64 ((IntKind.wrap .i64 (n1 + 4096)) - 1)) 4096)))), .int .i64 (IntKind.wrap .i64 ((IntKind.wrap .i64 (98 + (IntKind.wrap .i64 (Int.tdiv (IntKind.wrap .i64 ((IntKind.wrap .i64 (n1 + 4096)) - 1)) 4096)))) + (IntKind.wrap .i64 (Int.tdiv n1 64)))), .int .i64 (IntKind.wrap .i64 (8 * (IntKind.wrap .i64 (Int.tdiv n1 64))))] 5 h1 fun h3 =>
  ∃ res1 : List Value, List.length res1 = 5 ∧ Cells h3 ⟨h1.size, 0, none⟩ res1 ∧
  K (.agg ⟨res1⟩) h3
def boleref09_Geo.lo : Nat → List Nat × List (Nat × Ty) := fun n => match n with | _ => ([], [])
def boleref09_Geo.od : Nat → Od := fun n => match n with | _ => .nil
theorem boleref09_Geo.eq (n1 : Int) (K : Value → Heap → Prop) (h : Heap) : fnX (cx boleref09_Geo.lo boleref09_Geo.od) Try.f18 (Try.f18.body.getD .skip) [.int .i64 n1] K h = boleref09_Geo n1 K h := by kernel_rfl
theorem boleref09_Geo.chk : fnOk (cx boleref09_Geo.lo boleref09_Geo.od) Try.f18 (Try.f18.body.getD .skip) 1 = true := by kernel_rfl
theorem boleref09_Geo.ok {n1 : Int} {K : Value → Heap → Prop} {h : Heap} (hx : boleref09_Geo n1 K h) : C.boleref09_Geo n1 h K :=
  fn_to (cxOk _ _) Try.func18 (by kernel_rfl) boleref09_Geo.chk (by rw [boleref09_Geo.eq]; exact hx)

-- 19
def bolelaw09_Case_blocks (c1 : List Value) (K : Value → Heap → Prop) (h1 : Heap) : Prop :=
  New c1 25 h1 fun h2 =>
  ∃ (n1 : Int), cellOf h2 (Addr.add ⟨h1.size, 0, none⟩ 0) = some (.int .i64 n1) ∧
  C.bolelaw09_mod n1 200 h2 fun r1 h3 =>
  ∃ (n2 : Int), r1 = .int .i64 n2 ∧
  bif (decide (n2 < 180)) then (
  K (.int .i64 (IntKind.wrap .i64 (128 + n2))) h3) else (
  bif (decide (n2 < 190)) then (
  K (.int .i64 (IntKind.wrap .i64 ((IntKind.wrap .i64 (4096 + n2)) - 185))) h3) else (
  K (.int .i64 (IntKind.wrap .i64 ((IntKind.wrap .i64 (8192 + n2)) - 195))) h3))
def bolelaw09_Case_blocks.lo : Nat → List Nat × List (Nat × Ty) := fun n => match n with | _ => ([], [])
def bolelaw09_Case_blocks.od : Nat → Od := fun n => match n with | _ => .nil
theorem bolelaw09_Case_blocks.eq (c1 : List Value) (K : Value → Heap → Prop) (h : Heap) : fnX (cx bolelaw09_Case_blocks.lo bolelaw09_Case_blocks.od) Try.f19 (Try.f19.body.getD .skip) [.agg ⟨c1⟩] K h = bolelaw09_Case_blocks c1 K h := by kernel_rfl
theorem bolelaw09_Case_blocks.chk : fnOk (cx bolelaw09_Case_blocks.lo bolelaw09_Case_blocks.od) Try.f19 (Try.f19.body.getD .skip) 1 = true := by kernel_rfl
theorem bolelaw09_Case_blocks.ok {c1 : List Value} {K : Value → Heap → Prop} {h : Heap} (hx : bolelaw09_Case_blocks c1 K h) : C.bolelaw09_Case_blocks c1 h K :=
  fn_to (cxOk _ _) Try.func19 (by kernel_rfl) bolelaw09_Case_blocks.chk (by rw [bolelaw09_Case_blocks.eq]; exact hx)

-- 20
def adisk_Open (imageA1 : Option Addr) (imageL1 : Nat) (imageC1 : Nat) (K : Value → Heap → Prop) (h1 : Heap) : Prop :=
  bif ((Int.tmod (imageL1 : Int) 512) != 0) then (
  K (.tuple #[.pointer none, .int .i64 32]) h1) else (
  C.adisk_New (IntKind.wrap .i64 (Int.tdiv (imageL1 : Int) 512)) h1 fun r1 h2 =>
  ∃ (q1 : Option Addr) (n1 : Int), r1 = .tuple #[.pointer q1, .int .i64 n1] ∧
  bif (n1 != 0) then (
  K (.tuple #[.pointer none, .int .i64 n1]) h2) else (
  onSome q1 fun p1 =>
  ∃ (sA1 : Option Addr) (sL1 : Nat) (sC1 : Nat), cellOf h2 (Addr.add p1 0) = some (.slice sA1 sL1 sC1) ∧
  ∃ (I1 : Int → Heap → Prop) (M1 : Int → Heap → Nat), I1 0 h2 ∧
  ∀ (n2 : Int), ∀ h3 : Heap, I1 n2 h3 →
  bif (decide (n2 < (sL1 : Int))) then (
  onSome q1 fun p2 =>
  ∃ (sA2 : Option Addr) (sL2 : Nat) (sC2 : Nat), cellOf h3 (Addr.add p2 0) = some (.slice sA2 sL2 sC2) ∧
  (0 ≤ n2 ∧ n2 < (sL2 : Int)) ∧
  onSome sA2 fun p3 =>
  (0 ≤ (IntKind.wrap .i64 (n2 * 512)) ∧ (IntKind.wrap .i64 (n2 * 512)) ≤ (imageL1 : Int)) ∧
  CopyP ti5 (some (Addr.add p3 ((Int.toNat n2) * 512))) 512 (.slice (if imageC1 = (Int.toNat (IntKind.wrap .i64 (n2 * 512))) then imageA1 else Option.map (Addr.add · (Int.toNat (IntKind.wrap .i64 (n2 * 512)))) imageA1) (imageL1 - (Int.toNat (IntKind.wrap .i64 (n2 * 512)))) (imageC1 - (Int.toNat (IntKind.wrap .i64 (n2 * 512))))) h3 fun n3 h4 =>
  I1 (IntKind.wrap .i64 (n2 + 1)) h4 ∧ M1 (IntKind.wrap .i64 (n2 + 1)) h4 < M1 n2 h3) else (
  K (.tuple #[.pointer q1, .int .i64 0]) h3)))
def adisk_Open.lo : Nat → List Nat × List (Nat × Ty) := fun n => match n with | 7 => ([0, 4, 25], [(26, .int .i64)]) | _ => ([], [])
def adisk_Open.od : Nat → Od := fun n => match n with | 9 => (.op 0 [] (.op 1 [] (.op 2 [] (.op 3 [] (.op 4 [] (.op 5 [] (.op 6 [] (.op 7 [] (.op 8 [] (.op 9 [] (.op 10 [] (.op 11 [] .nil)))))))))))) | _ => .nil
theorem adisk_Open.eq (imageA1 : Option Addr) (imageL1 : Nat) (imageC1 : Nat) (K : Value → Heap → Prop) (h : Heap) : fnX (cx adisk_Open.lo adisk_Open.od) Try.f20 (Try.f20.body.getD .skip) [.slice imageA1 imageL1 imageC1] K h = adisk_Open imageA1 imageL1 imageC1 K h := by kernel_rfl
theorem adisk_Open.chk : fnOk (cx adisk_Open.lo adisk_Open.od) Try.f20 (Try.f20.body.getD .skip) 1 = true := by kernel_rfl
theorem adisk_Open.ok {imageA1 : Option Addr} {imageL1 : Nat} {imageC1 : Nat} {K : Value → Heap → Prop} {h : Heap} (hx : adisk_Open imageA1 imageL1 imageC1 K h) : C.adisk_Open imageA1 imageL1 imageC1 h K :=
  fn_to (cxOk _ _) Try.func20 (by kernel_rfl) adisk_Open.chk (by rw [adisk_Open.eq]; exact hx)
end Go.Proofs.Ytpleolmalbdpnaa.W
