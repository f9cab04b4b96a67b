/-
  WHAT THE FUNCTIONS COMPUTE, as formulas; each held against the loaded code by the kernel. Written by program (gen.py).
-/
import Derived.Test.YtcdpakjhjmchhaaGreatDoorTab
namespace Go.Proofs.YtcdpakjhjmchhaaGreatDoor.W
open Go Go.Proofs Go.Proofs.YtcdpakjhjmchhaaGreatDoor.Wx
-- 6
def bolelaw10_BmapCuts.k7 (low1 : Int) (h59 : Heap) (h62 : Heap) (I3 : Heap → Prop) (M3 : Heap → Nat) (n42 : Int) (n43 : Int) (h70 : Heap) (K : Value → Heap → Prop) : Prop :=
  bif (decide (n42 < low1)) then (
  MapPut (.int .i64) h59.size (.i n42) (.int .i64 n43) h70 fun h71 =>
  I3  h71 ∧ M3  h71 < M3  h62) else (
  I3  h70 ∧ M3  h70 < M3  h62)
def bolelaw10_BmapCuts.k6 (h4 : Heap) (q1 : Option Addr) (h10 : Heap) (low1 : Int) (sA1 : Option Addr) (sL1 : Nat) (bytesA1 : Option Addr) (bytesL1 : Nat) (h45 : Heap) (h59 : Heap) (K : Value → Heap → Prop) : Prop :=
  NewM h59 fun h60 =>
  ∃ m1 : MapI, MapAt (.int .i64) h60 h10.size (mI m1) ∧ ∀ h61 : Heap, NewIt h60 h10.size m1 h61 →
  ∃ (I3 : Heap → Prop) (M3 : Heap → Nat), I3  h61 ∧
  ∀ h62 : Heap, I3  h62 →
  Addr.off ⟨h60.size, 0, none⟩ = 0 ∧
  ∃ (r33 : Nat) (m2 left1 : MapI), MItAt h62 (Addr.block ⟨h60.size, 0, none⟩) r33 m2 left1 ∧
  (left1 = [] →
  ∃ (I4 : Int → Heap → Prop) (M4 : Int → Heap → Nat), I4 0 h62 ∧
  ∀ (n37 : Int), ∀ h64 : Heap, I4 n37 h64 →
  bif (decide (n37 < (sL1 : Int))) then (
  (0 ≤ n37 ∧ n37 < (sL1 : Int)) ∧
  onSome sA1 fun p3 =>
  ∃ (n38 : Int), cellOf h64 (Addr.add p3 (Int.toNat n37)) = some (.int .i64 n38) ∧
  C.txn_Txn_Read q1 n38 h64 fun r34 h65 =>
  ∃ (sA5 : Option Addr) (sL5 : Nat) (sC5 : Nat) (n39 : Int), r34 = .tuple #[.slice sA5 sL5 sC5, .int .i64 n39] ∧
  C.bolelaw10_num n39 h65 fun r35 h66 =>
  ∃ (n40 : Int), r35 = .int .i64 n40 ∧
  bif (n40 != 0) then (
  K (.bool false) h66) else (
  ∃ (n41 : Int), cellOf h66 (Addr.add ⟨h4.size, 0, none⟩ 2) = some (.int .i64 n41) ∧
  bif (decide (n38 < n41)) then (
  ∃ bs2 : List UInt8, StrAt h66 sA5 sL5 bs2 ∧
  (0 ≤ n37 ∧ n37 < (bytesL1 : Int)) ∧
  onSome bytesA1 fun p4 =>
  ∃ (s2 : ByteArray), cellOf h66 (Addr.add p4 (Int.toNat n37)) = some (.string s2) ∧
  bif (!((mkStr bs2).toList == s2.toList)) then (
  K (.bool false) h66) else (
  I4 (IntKind.wrap .i64 (n37 + 1)) h66 ∧ M4 (IntKind.wrap .i64 (n37 + 1)) h66 < M4 n37 h64)) else (
  I4 (IntKind.wrap .i64 (n37 + 1)) h66 ∧ M4 (IntKind.wrap .i64 (n37 + 1)) h66 < M4 n37 h64))) else (
  ∃ cs22 : List Value, List.length cs22 = 5 ∧ Cells h64 ⟨h4.size, 0, none⟩ cs22 ∧
  ∃ cs23 : List Value, List.length cs23 = 15 ∧ Cells h64 ⟨h45.size, 0, none⟩ cs23 ∧
  C.bolelaw10_told q1 cs22 cs23 (some h59.size) h64 fun r36 h67 =>
  ∃ (b4 : Bool), r36 = .bool b4 ∧
  K (.bool b4) h67)) ∧
  (∀ e2 ∈ left1, ∀ h63 : Heap, ItTo h62 (Addr.block ⟨h60.size, 0, none⟩) r33 m2 left1 e2 h63 →
  Addr.off ⟨h60.size, 0, none⟩ = 0 ∧
  ∃ (r37 : Nat) (n42 n43 : Int), MCur h63 (Addr.block ⟨h60.size, 0, none⟩) r37 n42 n43 ∧
  ∃ cs24 : List Value, List.length cs24 = 5 ∧ Cells h63 ⟨h4.size, 0, none⟩ cs24 ∧
  C.space_Used q1 cs24 n43 h63 fun r38 h68 =>
  ∃ (b5 : Bool) (n44 : Int), r38 = .tuple #[.bool b5, .int .i64 n44] ∧
  C.bolelaw10_num n44 h68 fun r39 h69 =>
  ∃ (n45 : Int), r39 = .int .i64 n45 ∧
  bif (n45 != 0) then (
  K (.bool false) h69) else (
  bif (!(b5 == (decide (n42 < low1)))) then (
  K (.bool false) h69) else (
  bolelaw10_BmapCuts.k7 low1 h59 h62 I3 M3 n42 n43 h69 K)))
def bolelaw10_BmapCuts.k5 (h4 : Heap) (q1 : Option Addr) (h8 : Heap) (h10 : Heap) (low1 : Int) (high1 : Int) (n12 : Int) (h24 : Heap) (sA1 : Option Addr) (sL1 : Nat) (bytesA1 : Option Addr) (bytesL1 : Nat) (h40 : Heap) (K : Value → Heap → Prop) : Prop :=
  C.txn_Txn_Back q1 n12 h40 fun r19 h41 =>
  ∃ (n23 : Int), r19 = .int .i64 n23 ∧
  ∃ cs14 : List Value, List.length cs14 = 5 ∧ Cells h41 ⟨h4.size, 0, none⟩ cs14 ∧
  ∃ cs15 : List Value, List.length cs15 = 15 ∧ Cells h41 ⟨h8.size, 0, none⟩ cs15 ∧
  C.bmap_Cut q1 cs14 cs15 high1 h41 fun r20 h42 =>
  ∃ (cs16 : List Value) (n24 : Int), r20 = .tuple #[.agg ⟨cs16⟩, .int .i64 n24] ∧
  NewRow z44 44 cs16 15 h42 fun h44 =>
  ∃ cs17 : List Value, List.length cs17 = 5 ∧ Cells h44 ⟨h4.size, 0, none⟩ cs17 ∧
  ∃ cs18 : List Value, List.length cs18 = 15 ∧ Cells h44 ⟨h42.size, 0, none⟩ cs18 ∧
  C.bmap_Cut q1 cs17 cs18 low1 h44 fun r21 h45 =>
  ∃ (cs19 : List Value) (n25 : Int), r21 = .tuple #[.agg ⟨cs19⟩, .int .i64 n25] ∧
  NewRow z44 44 cs19 15 h45 fun h47 =>
  C.bolelaw10_num n23 h47 fun r22 h48 =>
  ∃ (n26 : Int), r22 = .int .i64 n26 ∧
  bif (n26 != 0) then (
  C.bolelaw10_num n24 h48 fun r23 h49 =>
  ∃ (n27 : Int), r23 = .int .i64 n27 ∧
  bif (n27 == 60) then (
  K (.bool true) h49) else (
  C.bolelaw10_num n25 h49 fun r24 h50 =>
  ∃ (n28 : Int), r24 = .int .i64 n28 ∧
  K (.bool (n28 == 60)) h50)) else (
  C.bolelaw10_num n24 h48 fun r25 h51 =>
  ∃ (n29 : Int), r25 = .int .i64 n29 ∧
  bif (n29 != 0) then (
  C.bolelaw10_num n24 h51 fun r26 h52 =>
  ∃ (n30 : Int), r26 = .int .i64 n30 ∧
  bif (n30 == 60) then (
  K (.bool true) h52) else (
  C.bolelaw10_num n25 h52 fun r27 h53 =>
  ∃ (n31 : Int), r27 = .int .i64 n31 ∧
  K (.bool (n31 == 60)) h53)) else (
  C.bolelaw10_num n25 h51 fun r28 h54 =>
  ∃ (n32 : Int), r28 = .int .i64 n32 ∧
  bif (n32 != 0) then (
  C.bolelaw10_num n24 h54 fun r29 h55 =>
  ∃ (n33 : Int), r29 = .int .i64 n33 ∧
  bif (n33 == 60) then (
  K (.bool true) h55) else (
  C.bolelaw10_num n25 h55 fun r30 h56 =>
  ∃ (n34 : Int), r30 = .int .i64 n34 ∧
  K (.bool (n34 == 60)) h56)) else (
  ∃ cs20 : List Value, List.length cs20 = 15 ∧ Cells h54 ⟨h45.size, 0, none⟩ cs20 ∧
  ∃ cs21 : List Value, List.length cs21 = 15 ∧ Cells h54 ⟨h24.size, 0, none⟩ cs21 ∧
  pairsOk [(.int .i64), (.int .i64), (.int .i64), (.int .i64), (.int .i64), (.int .i64), (.int .i64), (.int .i64), (.int .i64), (.int .i64), (.int .i64), (.int .i64), (.int .i64), (.int .i64), (.int .i64)] cs20 cs21 = true ∧
  bif (!(cellsEq cs20 cs21)) then (
  C.bolelaw10_num n24 h54 fun r31 h57 =>
  ∃ (n35 : Int), r31 = .int .i64 n35 ∧
  bif (n35 == 60) then (
  K (.bool true) h57) else (
  C.bolelaw10_num n25 h57 fun r32 h58 =>
  ∃ (n36 : Int), r32 = .int .i64 n36 ∧
  K (.bool (n36 == 60)) h58)) else (
  bolelaw10_BmapCuts.k6 h4 q1 h10 low1 sA1 sL1 bytesA1 bytesL1 h45 h54 K))))
def bolelaw10_BmapCuts.k4 (h4 : Heap) (q1 : Option Addr) (h8 : Heap) (h10 : Heap) (h21 : Heap) (low1 : Int) (high1 : Int) (K : Value → Heap → Prop) : Prop :=
  C.txn_Txn_Mark q1 h21 fun r8 h22 =>
  ∃ (n12 : Int) (n13 : Int), r8 = .tuple #[.int .i64 n12, .int .i64 n13] ∧
  C.bolelaw10_num n13 h22 fun r9 h23 =>
  ∃ (n14 : Int), r9 = .int .i64 n14 ∧
  bif (n14 != 0) then (
  K (.bool false) h23) else (
  ∃ cs6 : List Value, List.length cs6 = 5 ∧ Cells h23 ⟨h4.size, 0, none⟩ cs6 ∧
  ∃ cs7 : List Value, List.length cs7 = 15 ∧ Cells h23 ⟨h8.size, 0, none⟩ cs7 ∧
  C.bmap_Cut q1 cs6 cs7 low1 h23 fun r10 h24 =>
  ∃ (cs8 : List Value) (n15 : Int), r10 = .tuple #[.agg ⟨cs8⟩, .int .i64 n15] ∧
  NewRow z44 44 cs8 15 h24 fun h26 =>
  C.bolelaw10_num n15 h26 fun r11 h27 =>
  ∃ (n16 : Int), r11 = .int .i64 n16 ∧
  bif (n16 != 0) then (
  C.bolelaw10_num n15 h27 fun r12 h28 =>
  ∃ (n17 : Int), r12 = .int .i64 n17 ∧
  K (.bool (n17 == 60)) h28) else (
  C.txn_Txn_Written q1 h27 fun r13 h29 =>
  ∃ (sA1 : Option Addr) (sL1 : Nat) (sC1 : Nat), r13 = .slice sA1 sL1 sC1 ∧
  ∃ (I2 : Option Addr → Nat → Nat → Int → Heap → Prop) (M2 : Option Addr → Nat → Nat → Int → Heap → Nat), I2 none 0 0 0 h29 ∧
  ∀ (bytesA1 : Option Addr) (bytesL1 : Nat) (bytesC1 : Nat) (n18 : Int), ∀ h30 : Heap, I2 bytesA1 bytesL1 bytesC1 n18 h30 →
  bif (decide (n18 < (sL1 : Int))) then (
  (0 ≤ n18 ∧ n18 < (sL1 : Int)) ∧
  onSome sA1 fun p2 =>
  ∃ (n19 : Int), cellOf h30 (Addr.add p2 (Int.toNat n18)) = some (.int .i64 n19) ∧
  C.txn_Txn_Read q1 n19 h30 fun r14 h31 =>
  ∃ (sA2 : Option Addr) (sL2 : Nat) (sC2 : Nat) (n20 : Int), r14 = .tuple #[.slice sA2 sL2 sC2, .int .i64 n20] ∧
  ∃ bs1 : List UInt8, StrAt h31 sA2 sL2 bs1 ∧
  New [.string (mkStr bs1)] 9 h31 fun h32 =>
  ∃ new1 : List Value, List.length new1 = 1 * 1 ∧ SlCells h32 (some ⟨h31.size, 0, none⟩) new1 ∧ (∀ v ∈ new1, v.oneCell' = true) ∧
  AppendP ti9 9 bytesA1 bytesL1 bytesC1 1 new1 h32 fun sA3 sL3 sC3 h33 =>
  I2 sA3 sL3 sC3 (IntKind.wrap .i64 (n18 + 1)) h33 ∧ M2 sA3 sL3 sC3 (IntKind.wrap .i64 (n18 + 1)) h33 < M2 bytesA1 bytesL1 bytesC1 n18 h30) else (
  ∃ cs9 : List Value, List.length cs9 = 5 ∧ Cells h30 ⟨h4.size, 0, none⟩ cs9 ∧
  ∃ cs10 : List Value, List.length cs10 = 15 ∧ Cells h30 ⟨h24.size, 0, none⟩ cs10 ∧
  C.bmap_Cut q1 cs9 cs10 low1 h30 fun r15 h34 =>
  ∃ (cs11 : List Value) (n21 : Int), r15 = .tuple #[.agg ⟨cs11⟩, .int .i64 n21] ∧
  NewRow z44 44 cs11 15 h34 fun h36 =>
  C.bolelaw10_num n21 h36 fun r16 h37 =>
  ∃ (n22 : Int), r16 = .int .i64 n22 ∧
  bif (n22 != 0) then (
  K (.bool false) h37) else (
  ∃ cs12 : List Value, List.length cs12 = 15 ∧ Cells h37 ⟨h34.size, 0, none⟩ cs12 ∧
  ∃ cs13 : List Value, List.length cs13 = 15 ∧ Cells h37 ⟨h24.size, 0, none⟩ cs13 ∧
  pairsOk [(.int .i64), (.int .i64), (.int .i64), (.int .i64), (.int .i64), (.int .i64), (.int .i64), (.int .i64), (.int .i64), (.int .i64), (.int .i64), (.int .i64), (.int .i64), (.int .i64), (.int .i64)] cs12 cs13 = true ∧
  bif (!(cellsEq cs12 cs13)) then (
  K (.bool false) h37) else (
  C.txn_Txn_Written q1 h37 fun r17 h38 =>
  ∃ (sA4 : Option Addr) (sL4 : Nat) (sC4 : Nat), r17 = .slice sA4 sL4 sC4 ∧
  C.bolelaw10_same sA4 sL4 sC4 sA1 sL1 sC1 h38 fun r18 h39 =>
  ∃ (b3 : Bool), r18 = .bool b3 ∧
  bif (!b3) then (
  K (.bool false) h39) else (
  bolelaw10_BmapCuts.k5 h4 q1 h8 h10 low1 high1 n12 h24 sA1 sL1 bytesA1 bytesL1 h39 K))))))
def bolelaw10_BmapCuts.k3 (h2 : Heap) (h4 : Heap) (q1 : Option Addr) (h8 : Heap) (h10 : Heap) (h19 : Heap) (K : Value → Heap → Prop) : Prop :=
  (0 ≤ (0 : Int) ∧ 0 < (2 : Int)) ∧
  ∃ (n8 : Int), cellOf h19 (Addr.add ⟨h2.size, 0, none⟩ (Int.toNat 0)) = some (.int .i64 n8) ∧
  (0 ≤ (1 : Int) ∧ 1 < (2 : Int)) ∧
  ∃ (n9 : Int), cellOf h19 (Addr.add ⟨h2.size, 0, none⟩ (Int.toNat 1)) = some (.int .i64 n9) ∧
  C.bolelaw10_index n8 h19 fun r6 h20 =>
  ∃ (n10 : Int), r6 = .int .i64 n10 ∧
  (cellOf h20 (Addr.add ⟨h2.size, 0, none⟩ (Int.toNat 1)) = some (.int .i64 n9)) ∧
  C.bolelaw10_index n9 h20 fun r7 h21 =>
  ∃ (n11 : Int), r7 = .int .i64 n11 ∧
  bif (decide (n10 > n11)) then (
  bolelaw10_BmapCuts.k4 h4 q1 h8 h10 h21 n11 n10 K) else (
  bolelaw10_BmapCuts.k4 h4 q1 h8 h10 h21 n10 n11 K)
def bolelaw10_BmapCuts.k2 (h2 : Heap) (h4 : Heap) (q1 : Option Addr) (h8 : Heap) (h10 : Heap) (n1 : Int) (h12 : Heap) (I1 : Int → Heap → Prop) (M1 : Int → Heap → Nat) (n2 : Int) (y1 : Option Addr) (n6 : Int) (e1 : Int) (h17 : Heap) (K : Value → Heap → Prop) : Prop :=
  C.bolelaw10_num e1 h17 fun r5 h18 =>
  ∃ (n7 : Int), r5 = .int .i64 n7 ∧
  bif (n7 != 0) then (
  bolelaw10_BmapCuts.k3 h2 h4 q1 h8 h10 h18 K) else (
  onSome y1 fun p5 =>
  ∃ cs25 : List Value, List.length cs25 = 15 ∧ Cells h18 p5 cs25 ∧
  C.bolelaw10_index n2 h18 fun r40 h72 =>
  ∃ (n46 : Int), r40 = .int .i64 n46 ∧
  (onSome y1 fun p6 => List.length (cs25 : List Value) = 15 ∧ Cells h72 p6 cs25) ∧
  zeroV ti3 = .int .i64 0 ∧
  ∃ m3 : MapI, MapAt (.int .i64) h72 h10.size (mI m3) ∧ ∀ (n47 n48 : Int) (h73 : Heap), EntTo h72 h10.size m3 (.i n46) n47 n48 h73 →
  (onSome y1 fun p7 => List.length (cs25 : List Value) = 15 ∧ Cells h73 p7 cs25) ∧
  IntKind.i64 = IntKind.i64 ∧
  ∃ (m4 : MapI) (key1 : MKey), MapAt (.int .i64) h73 h10.size (mI m4) ∧ StAt h73 h10.size key1 n48 ∧ ∀ h74 : Heap, MapTo (.int .i64) h73 h10.size (mput (mI m4) key1 (.int .i64 n6)) h74 →
  (onSome y1 fun p8 => List.length (cs25 : List Value) = 15 ∧ Cells h74 p8 cs25) ∧
  PutRow ⟨h8.size, 0, none⟩ cs25 15 h74 fun h75 =>
  I1 (IntKind.wrap .i64 (n1 + 1)) h75 ∧ M1 (IntKind.wrap .i64 (n1 + 1)) h75 < M1 n1 h12)
def bolelaw10_BmapCuts.k1 (indicesA1 : Option Addr) (indicesL1 : Nat) (indicesC1 : Nat) (h2 : Heap) (h4 : Heap) (q1 : Option Addr) (h8 : Heap) (K : Value → Heap → Prop) : Prop :=
  NewRow z44 44 [.int .i64 0, .int .i64 0, .int .i64 0, .int .i64 0, .int .i64 0, .int .i64 0, .int .i64 0, .int .i64 0, .int .i64 0, .int .i64 0, .int .i64 0, .int .i64 0, .int .i64 0, .int .i64 0, .int .i64 0] 15 h8 fun h10 =>
  NewM h10 fun h11 =>
  (0 ≤ (if (200 : Int) < (indicesL1 : Int) then 200 else (indicesL1 : Int)) ∧ (if (200 : Int) < (indicesL1 : Int) then 200 else (indicesL1 : Int)) ≤ (indicesC1 : Int)) ∧
  ∃ (I1 : Int → Heap → Prop) (M1 : Int → Heap → Nat), I1 0 h11 ∧
  ∀ (n1 : Int), ∀ h12 : Heap, I1 n1 h12 →
  bif (decide (n1 < ((Int.toNat (if (200 : Int) < (indicesL1 : Int) then 200 else (indicesL1 : Int))) : Int))) then (
  (0 ≤ n1 ∧ n1 < ((Int.toNat (if (200 : Int) < (indicesL1 : Int) then 200 else (indicesL1 : Int))) : Int)) ∧
  onSome indicesA1 fun p1 =>
  ∃ (n2 : Int), cellOf h12 (Addr.add p1 (Int.toNat n1)) = some (.int .i64 n2) ∧
  ∃ cs3 : List Value, List.length cs3 = 5 ∧ Cells h12 ⟨h4.size, 0, none⟩ cs3 ∧
  ∃ cs4 : List Value, List.length cs4 = 15 ∧ Cells h12 ⟨h8.size, 0, none⟩ cs4 ∧
  (
  C.bolelaw10_index n2 h12 fun r3 h13 =>
  ∃ (n3 : Int), r3 = .int .i64 n3 ∧
  (List.length (cs3 : List Value) = 5 ∧ Cells h13 ⟨h4.size, 0, none⟩ cs3) ∧
  (List.length (cs4 : List Value) = 15 ∧ Cells h13 ⟨h8.size, 0, none⟩ cs4) ∧
  (
  C.bmap_Add q1 cs3 cs4 n3 h13 fun r4 h14 =>
  ∃ (cs5 : List Value) (n4 : Int) (n5 : Int), r4 = .tuple #[.agg ⟨cs5⟩, .int .i64 n4, .int .i64 n5] ∧
  New z44 44 h14 fun h15 =>
  (List.length (cs3 : List Value) = 5 ∧ Cells h15 ⟨h4.size, 0, none⟩ cs3) ∧
  (List.length (cs4 : List Value) = 15 ∧ Cells h15 ⟨h8.size, 0, none⟩ cs4) ∧
  PutRow ⟨h14.size, 0, none⟩ cs5 15 h15 fun h16 =>
  bolelaw10_BmapCuts.k2 h2 h4 q1 h8 h10 n1 h12 I1 M1 n2 (some ⟨h14.size, 0, none⟩) n4 n5 h16 K) ∧
  New z44 44 h13 fun h76 =>
  (List.length (cs3 : List Value) = 5 ∧ Cells h76 ⟨h4.size, 0, none⟩ cs3) ∧
  (List.length (cs4 : List Value) = 15 ∧ Cells h76 ⟨h8.size, 0, none⟩ cs4) ∧
  C.bmap_Add q1 cs3 cs4 n3 h76 fun r41 h77 =>
  ∃ (cs26 : List Value) (n49 : Int) (n50 : Int), r41 = .tuple #[.agg ⟨cs26⟩, .int .i64 n49, .int .i64 n50] ∧
  PutRow ⟨h13.size, 0, none⟩ cs26 15 h77 fun h78 =>
  bolelaw10_BmapCuts.k2 h2 h4 q1 h8 h10 n1 h12 I1 M1 n2 (some ⟨h13.size, 0, none⟩) n49 n50 h78 K) ∧
  New z44 44 h12 fun h79 =>
  (List.length (cs3 : List Value) = 5 ∧ Cells h79 ⟨h4.size, 0, none⟩ cs3) ∧
  (List.length (cs4 : List Value) = 15 ∧ Cells h79 ⟨h8.size, 0, none⟩ cs4) ∧
  C.bolelaw10_index n2 h79 fun r42 h80 =>
  ∃ (n51 : Int), r42 = .int .i64 n51 ∧
  (List.length (cs3 : List Value) = 5 ∧ Cells h80 ⟨h4.size, 0, none⟩ cs3) ∧
  (List.length (cs4 : List Value) = 15 ∧ Cells h80 ⟨h8.size, 0, none⟩ cs4) ∧
  C.bmap_Add q1 cs3 cs4 n51 h80 fun r43 h81 =>
  ∃ (cs27 : List Value) (n52 : Int) (n53 : Int), r43 = .tuple #[.agg ⟨cs27⟩, .int .i64 n52, .int .i64 n53] ∧
  PutRow ⟨h12.size, 0, none⟩ cs27 15 h81 fun h82 =>
  bolelaw10_BmapCuts.k2 h2 h4 q1 h8 h10 n1 h12 I1 M1 n2 (some ⟨h12.size, 0, none⟩) n52 n53 h82 K) else (
  bolelaw10_BmapCuts.k3 h2 h4 q1 h8 h10 h12 K)
def bolelaw10_BmapCuts (s1 : List Value) (indicesA1 : Option Addr) (indicesL1 : Nat) (indicesC1 : Nat) (cuts1 : List Value) (K : Value → Heap → Prop) (h1 : Heap) : Prop :=
  New s1 41 h1 fun h2 =>
  New cuts1 56 h2 fun h3 =>
  ∃ cs1 : List Value, List.length cs1 = 3 ∧ Cells h3 ⟨h1.size, 0, none⟩ cs1 ∧
  C.bolelaw10_Setup_begin cs1 h3 fun r1 h4 =>
  ∃ (q1 : Option Addr) (q2 : Option Addr) (cs2 : List Value) (b1 : Bool), r1 = .tuple #[.pointer q1, .pointer q2, .agg ⟨cs2⟩, .bool b1] ∧
  NewRow z25 25 cs2 5 h4 fun h6 =>
  bif (!b1) then (
  K (.bool false) h6) else (
  C.bolelaw10_known  h6 fun r2 h7 =>
  ∃ (b2 : Bool), r2 = .bool b2 ∧
  bif (!b2) then (
  K (.bool false) h7) else (
  bolelaw10_BmapCuts.k1 indicesA1 indicesL1 indicesC1 h2 h4 q1 h7 K))
def bolelaw10_BmapCuts.lo : Nat → List Nat × List (Nat × Ty) := fun n => match n with | 7 => ([5, 7, 9, 11, 12, 62, 63], [(64, .int .i64)]) | 25 => ([7, 9, 11, 12, 18, 19, 20, 22, 24, 124, 125], [(25, .slice), (126, .int .i64)]) | 40 => ([7, 9, 18, 24, 25, 33, 34, 212], []) | 48 => ([7, 9, 25, 33, 34, 241, 242], [(243, .int .i64)]) | _ => ([], [])
set_option maxRecDepth 100000 in
def bolelaw10_BmapCuts.od : Nat → Od := fun n => match n with | 9 => (.op 0 [] (.op 1 [] (.op 2 [] (.op 3 [] (.alt 4 [1, 2] (.alt 5 [] (.op 6 [] (.op 7 [] (.op 8 [] (.op 9 [] (.op 10 [1, 2] (.op 11 [] (.op 12 [] (.op 13 [] .nil)))))))) (.op 10 [1, 2] (.op 5 [] (.op 6 [] (.op 7 [] (.op 8 [] (.op 9 [] (.op 11 [] (.op 12 [] (.op 13 [] .nil)))))))))) (.op 10 [1, 2] (.op 4 [1, 2] (.op 5 [] (.op 6 [] (.op 7 [] (.op 8 [] (.op 9 [] (.op 11 [] (.op 12 [] (.op 13 [] .nil))))))))))))))) | 11 => (.op 0 [] (.op 1 [] (.op 3 [] (.op 4 [] (.op 2 [4] (.op 5 [4] (.op 6 [] (.op 7 [4] (.op 8 [] .nil))))))))) | 13 => (.op 0 [] (.op 1 [] (.op 3 [] (.op 4 [] (.op 2 [4] (.op 5 [] (.op 6 [] (.op 7 [] .nil)))))))) | 51 => (.op 0 [] (.op 1 [] (.op 2 [] (.op 3 [] (.op 4 [] (.op 5 [] (.op 6 [] (.op 7 [] (.op 8 [] (.op 9 [] (.op 10 [] (.op 11 [] (.op 12 [] (.op 13 [] (.op 14 [] (.op 15 [] (.op 16 [] (.op 17 [] .nil)))))))))))))))))) | _ => .nil
set_option maxRecDepth 100000 in
theorem bolelaw10_BmapCuts.eq (s1 : List Value) (indicesA1 : Option Addr) (indicesL1 : Nat) (indicesC1 : Nat) (cuts1 : List Value) (K : Value → Heap → Prop) (h : Heap) : fnX (cx bolelaw10_BmapCuts.lo bolelaw10_BmapCuts.od) Tryz.f6 (Tryz.f6.body.getD .skip) [.agg ⟨s1⟩, .slice indicesA1 indicesL1 indicesC1, .agg ⟨cuts1⟩] K h = bolelaw10_BmapCuts s1 indicesA1 indicesL1 indicesC1 cuts1 K h := by kernel_rfl
theorem bolelaw10_BmapCuts.chk : fnOk (cx bolelaw10_BmapCuts.lo bolelaw10_BmapCuts.od) Tryz.f6 (Tryz.f6.body.getD .skip) 3 = true := by kernel_rfl
set_option maxRecDepth 100000 in
theorem bolelaw10_BmapCuts.ok {s1 : List Value} {indicesA1 : Option Addr} {indicesL1 : Nat} {indicesC1 : Nat} {cuts1 : List Value} {K : Value → Heap → Prop} {h : Heap} (hx : bolelaw10_BmapCuts s1 indicesA1 indicesL1 indicesC1 cuts1 K h) : C.bolelaw10_BmapCuts s1 indicesA1 indicesL1 indicesC1 cuts1 h K :=
  fn_to (cxOk _ _) Tryz.func6 (by kernel_rfl) bolelaw10_BmapCuts.chk (by rw [bolelaw10_BmapCuts.eq]; exact hx)

-- 11
def space_Free (t1 : Option Addr) (g1 : List Value) (K : Value → Heap → Prop) (h1 : Heap) : Prop :=
  New g1 25 h1 fun h2 =>
  New z3 3 h2 fun h3 =>
  Put ⟨h2.size, 0, none⟩ (.int .i64 0) h3 fun h4 =>
  ∃ cs1 : List Value, List.length cs1 = 5 ∧ Cells h4 ⟨h1.size, 0, none⟩ cs1 ∧
  C.space_each t1 cs1 (Value.func (.func 50) #[] ⟨[.pointer (some ⟨h1.size, 0, none⟩), .pointer (some ⟨h2.size, 0, none⟩)]⟩) h4 fun r1 h5 =>
  ∃ (n1 : Int), r1 = .int .i64 n1 ∧
  bif (n1 != 0) then (
  K (.tuple #[.int .i64 0, .int .i64 n1]) h5) else (
  ∃ (n2 : Int), cellOf h5 ⟨h2.size, 0, none⟩ = some (.int .i64 n2) ∧
  K (.tuple #[.int .i64 n2, .int .i64 0]) h5)
def space_Free.lo : Nat → List Nat × List (Nat × Ty) := fun n => match n with | _ => ([], [])
def space_Free.od : Nat → Od := fun n => match n with | _ => .nil
theorem space_Free.eq (t1 : Option Addr) (g1 : List Value) (K : Value → Heap → Prop) (h : Heap) : fnX (cx space_Free.lo space_Free.od) Tryz.f11 (Tryz.f11.body.getD .skip) [.pointer t1, .agg ⟨g1⟩] K h = space_Free t1 g1 K h := by kernel_rfl
theorem space_Free.chk : fnOk (cx space_Free.lo space_Free.od) Tryz.f11 (Tryz.f11.body.getD .skip) 2 = true := by kernel_rfl
theorem space_Free.ok {t1 : Option Addr} {g1 : List Value} {K : Value → Heap → Prop} {h : Heap} (hx : space_Free t1 g1 K h) : C.space_Free t1 g1 h K :=
  fn_to (cxOk _ _) Tryz.func11 (by kernel_rfl) space_Free.chk (by rw [space_Free.eq]; exact hx)

-- 17
def bolelaw10_Setup_begin.k1 (h2 : Heap) (h4 : Heap) (q1 : Option Addr) (q2 : Option Addr) (h14 : Heap) (K : Value → Heap → Prop) : Prop :=
  C.txn_Begin q1 h14 fun r6 h15 =>
  ∃ (q3 : Option Addr), r6 = .pointer q3 ∧
  ∃ cs6 : List Value, List.length cs6 = 5 ∧ Cells h15 ⟨h4.size, 0, none⟩ cs6 ∧
  C.boleref06_Begin q2 h15 fun r7 h16 =>
  ∃ (q4 : Option Addr), r7 = .pointer q4 ∧
  (List.length (cs6 : List Value) = 5 ∧ Cells h16 ⟨h4.size, 0, none⟩ cs6) ∧
  PutRow ⟨h2.size, 0, none⟩ cs6 5 h16 fun h17 =>
  ∃ res4 : List Value, List.length res4 = 5 ∧ Cells h17 ⟨h2.size, 0, none⟩ res4 ∧
  K (.tuple #[.pointer q3, .pointer q4, .agg ⟨res4⟩, .bool (!(Option.isNone q3))]) h17
def bolelaw10_Setup_begin (s1 : List Value) (K : Value → Heap → Prop) (h1 : Heap) : Prop :=
  New s1 41 h1 fun h2 =>
  New z25 25 h2 fun h3 =>
  ∃ cs1 : List Value, List.length cs1 = 3 ∧ Cells h3 ⟨h1.size, 0, none⟩ cs1 ∧
  C.bolelaw10_Setup_image cs1 h3 fun r1 h4 =>
  ∃ (sA1 : Option Addr) (sL1 : Nat) (sC1 : Nat) (cs2 : List Value), r1 = .tuple #[.slice sA1 sL1 sC1, .agg ⟨cs2⟩] ∧
  NewRow z25 25 cs2 5 h4 fun h6 =>
  C.adisk_Open sA1 sL1 sC1 h6 fun r2 h7 =>
  ∃ (q1 : Option Addr) (n1 : Int), r2 = .tuple #[.pointer q1, .int .i64 n1] ∧
  C.boleref03_Of sA1 sL1 sC1 h7 fun r3 h8 =>
  ∃ (q2 : Option Addr) (n2 : Int), r3 = .tuple #[.pointer q2, .int .i64 n2] ∧
  C.bolelaw10_num n1 h8 fun r4 h9 =>
  ∃ (n3 : Int), r4 = .int .i64 n3 ∧
  bif (n3 != 0) then (
  ∃ cs3 : List Value, List.length cs3 = 5 ∧ Cells h9 ⟨h4.size, 0, none⟩ cs3 ∧
  PutRow ⟨h2.size, 0, none⟩ cs3 5 h9 fun h10 =>
  ∃ res1 : List Value, List.length res1 = 5 ∧ Cells h10 ⟨h2.size, 0, none⟩ res1 ∧
  K (.tuple #[.pointer none, .pointer none, .agg ⟨res1⟩, .bool false]) h10) else (
  C.bolelaw10_num n2 h9 fun r5 h11 =>
  ∃ (n4 : Int), r5 = .int .i64 n4 ∧
  bif (n4 != 0) then (
  ∃ cs4 : List Value, List.length cs4 = 5 ∧ Cells h11 ⟨h4.size, 0, none⟩ cs4 ∧
  PutRow ⟨h2.size, 0, none⟩ cs4 5 h11 fun h12 =>
  ∃ res2 : List Value, List.length res2 = 5 ∧ Cells h12 ⟨h2.size, 0, none⟩ res2 ∧
  K (.tuple #[.pointer none, .pointer none, .agg ⟨res2⟩, .bool false]) h12) else (
  bif (Option.isNone q1) then (
  ∃ cs5 : List Value, List.length cs5 = 5 ∧ Cells h11 ⟨h4.size, 0, none⟩ cs5 ∧
  PutRow ⟨h2.size, 0, none⟩ cs5 5 h11 fun h13 =>
  ∃ res3 : List Value, List.length res3 = 5 ∧ Cells h13 ⟨h2.size, 0, none⟩ res3 ∧
  K (.tuple #[.pointer none, .pointer none, .agg ⟨res3⟩, .bool false]) h13) else (
  bolelaw10_Setup_begin.k1 h2 h4 q1 q2 h11 K)))
def bolelaw10_Setup_begin.lo : Nat → List Nat × List (Nat × Ty) := fun n => match n with | _ => ([], [])
def bolelaw10_Setup_begin.od : Nat → Od := fun n => match n with | 5 => (.op 0 [] (.op 1 [] (.op 2 [] (.op 3 [] (.op 4 [] .nil))))) | 7 => (.op 0 [] (.op 1 [] (.op 3 [] (.op 4 [] (.op 5 [] (.op 2 [3] (.op 6 [] (.op 7 [] (.op 8 [] (.op 9 [] .nil)))))))))) | _ => .nil
theorem bolelaw10_Setup_begin.eq (s1 : List Value) (K : Value → Heap → Prop) (h : Heap) : fnX (cx bolelaw10_Setup_begin.lo bolelaw10_Setup_begin.od) Tryz.f17 (Tryz.f17.body.getD .skip) [.agg ⟨s1⟩] K h = bolelaw10_Setup_begin s1 K h := by kernel_rfl
theorem bolelaw10_Setup_begin.chk : fnOk (cx bolelaw10_Setup_begin.lo bolelaw10_Setup_begin.od) Tryz.f17 (Tryz.f17.body.getD .skip) 1 = true := by kernel_rfl
theorem bolelaw10_Setup_begin.ok {s1 : List Value} {K : Value → Heap → Prop} {h : Heap} (hx : bolelaw10_Setup_begin s1 K h) : C.bolelaw10_Setup_begin s1 h K :=
  fn_to (cxOk _ _) Tryz.func17 (by kernel_rfl) bolelaw10_Setup_begin.chk (by rw [bolelaw10_Setup_begin.eq]; exact hx)

-- 18
def bolelaw10_known.k1 (sA1 : Option Addr) (sL1 : Nat) (sC1 : Nat) (sA2 : Option Addr) (sL2 : Nat) (sC2 : Nat) (h13 : Heap) (n9 : Int) (h23 : Heap) (K : Value → Heap → Prop) : Prop :=
  List.length ([.int .i64 0, .int .i64 101] : List Value) = 2 ∧
  List.length ([.int .i64 10, .int .i64 103] : List Value) = 2 ∧
  New [.int .i64 0, .int .i64 101, .int .i64 10, .int .i64 103] 56 h23 fun h24 =>
  C.bolelaw10_samePairs sA1 sL1 sC1 (some ⟨h23.size, 0, none⟩) 2 2 h24 fun r14 h25 =>
  ∃ (b2 : Bool), r14 = .bool b2 ∧
  bif b2 then (
  New [.int .i64 102] 3 h25 fun h26 =>
  C.bolelaw10_same sA2 sL2 sC2 (some ⟨h25.size, 0, none⟩) 1 1 h26 fun r15 h27 =>
  ∃ (b3 : Bool), r15 = .bool b3 ∧
  bif b3 then (
  ∃ cs15 : List Value, List.length cs15 = 15 ∧ Cells h27 ⟨h13.size, 0, none⟩ cs15 ∧
  pairsOk [(.int .i64), (.int .i64), (.int .i64), (.int .i64), (.int .i64), (.int .i64), (.int .i64), (.int .i64), (.int .i64), (.int .i64), (.int .i64), (.int .i64), (.int .i64), (.int .i64), (.int .i64)] cs15 [.int .i64 0, .int .i64 0, .int .i64 0, .int .i64 0, .int .i64 0, .int .i64 0, .int .i64 0, .int .i64 0, .int .i64 0, .int .i64 0, .int .i64 0, .int .i64 0, .int .i64 0, .int .i64 0, .int .i64 0] = true ∧
  bif (cellsEq cs15 [.int .i64 0, .int .i64 0, .int .i64 0, .int .i64 0, .int .i64 0, .int .i64 0, .int .i64 0, .int .i64 0, .int .i64 0, .int .i64 0, .int .i64 0, .int .i64 0, .int .i64 0, .int .i64 0, .int .i64 0]) then (
  K (.bool (n9 == 27)) h27) else (
  K (.bool false) h27)) else (
  K (.bool false) h27)) else (
  K (.bool false) h25)
def bolelaw10_known  (K : Value → Heap → Prop) (h1 : Heap) : Prop :=
  C.bolelaw10_Setup_begin [.int .i64 0, .slice none 0 0, .slice none 0 0] h1 fun r1 h2 =>
  ∃ (q1 : Option Addr) (q2 : Option Addr) (cs1 : List Value) (b1 : Bool), r1 = .tuple #[.pointer q1, .pointer q2, .agg ⟨cs1⟩, .bool b1] ∧
  NewRow z25 25 cs1 5 h2 fun h4 =>
  bif (!b1) then (
  K (.bool false) h4) else (
  ∃ cs2 : List Value, List.length cs2 = 5 ∧ Cells h4 ⟨h2.size, 0, none⟩ cs2 ∧
  C.bmap_Add q1 cs2 [.int .i64 0, .int .i64 0, .int .i64 0, .int .i64 0, .int .i64 0, .int .i64 0, .int .i64 0, .int .i64 0, .int .i64 0, .int .i64 0, .int .i64 0, .int .i64 0, .int .i64 0, .int .i64 0, .int .i64 0] 0 h4 fun r2 h5 =>
  ∃ (cs3 : List Value) (n1 : Int) (n2 : Int), r2 = .tuple #[.agg ⟨cs3⟩, .int .i64 n1, .int .i64 n2] ∧
  NewRow z44 44 cs3 15 h5 fun h7 =>
  ∃ cs4 : List Value, List.length cs4 = 5 ∧ Cells h7 ⟨h2.size, 0, none⟩ cs4 ∧
  ∃ cs5 : List Value, List.length cs5 = 15 ∧ Cells h7 ⟨h5.size, 0, none⟩ cs5 ∧
  C.bmap_Add q1 cs4 cs5 10 h7 fun r3 h8 =>
  ∃ (cs6 : List Value) (n3 : Int) (n4 : Int), r3 = .tuple #[.agg ⟨cs6⟩, .int .i64 n3, .int .i64 n4] ∧
  NewRow z44 44 cs6 15 h8 fun h10 =>
  ∃ cs7 : List Value, List.length cs7 = 5 ∧ Cells h10 ⟨h2.size, 0, none⟩ cs7 ∧
  ∃ cs8 : List Value, List.length cs8 = 15 ∧ Cells h10 ⟨h8.size, 0, none⟩ cs8 ∧
  C.bmap_Find q1 cs7 cs8 10 h10 fun r4 h11 =>
  ∃ (n5 : Int) (n6 : Int), r4 = .tuple #[.int .i64 n5, .int .i64 n6] ∧
  ∃ cs9 : List Value, List.length cs9 = 5 ∧ Cells h11 ⟨h2.size, 0, none⟩ cs9 ∧
  ∃ cs10 : List Value, List.length cs10 = 15 ∧ Cells h11 ⟨h8.size, 0, none⟩ cs10 ∧
  C.bmap_All q1 cs9 cs10 h11 fun r5 h12 =>
  ∃ (sA1 : Option Addr) (sL1 : Nat) (sC1 : Nat) (sA2 : Option Addr) (sL2 : Nat) (sC2 : Nat) (n7 : Int), r5 = .tuple #[.slice sA1 sL1 sC1, .slice sA2 sL2 sC2, .int .i64 n7] ∧
  ∃ cs11 : List Value, List.length cs11 = 5 ∧ Cells h12 ⟨h2.size, 0, none⟩ cs11 ∧
  ∃ cs12 : List Value, List.length cs12 = 15 ∧ Cells h12 ⟨h8.size, 0, none⟩ cs12 ∧
  C.bmap_Cut q1 cs11 cs12 0 h12 fun r6 h13 =>
  ∃ (cs13 : List Value) (n8 : Int), r6 = .tuple #[.agg ⟨cs13⟩, .int .i64 n8] ∧
  NewRow z44 44 cs13 15 h13 fun h15 =>
  ∃ cs14 : List Value, List.length cs14 = 5 ∧ Cells h15 ⟨h2.size, 0, none⟩ cs14 ∧
  C.space_Free q1 cs14 h15 fun r7 h16 =>
  ∃ (n9 : Int) (n10 : Int), r7 = .tuple #[.int .i64 n9, .int .i64 n10] ∧
  C.bolelaw10_num n2 h16 fun r8 h17 =>
  ∃ (n11 : Int), r8 = .int .i64 n11 ∧
  bif (n11 != 0) then (
  K (.bool false) h17) else (
  C.bolelaw10_num n4 h17 fun r9 h18 =>
  ∃ (n12 : Int), r9 = .int .i64 n12 ∧
  bif (n12 != 0) then (
  K (.bool false) h18) else (
  C.bolelaw10_num n6 h18 fun r10 h19 =>
  ∃ (n13 : Int), r10 = .int .i64 n13 ∧
  bif (n13 != 0) then (
  K (.bool false) h19) else (
  C.bolelaw10_num n7 h19 fun r11 h20 =>
  ∃ (n14 : Int), r11 = .int .i64 n14 ∧
  bif (n14 != 0) then (
  K (.bool false) h20) else (
  C.bolelaw10_num n8 h20 fun r12 h21 =>
  ∃ (n15 : Int), r12 = .int .i64 n15 ∧
  bif (n15 != 0) then (
  K (.bool false) h21) else (
  C.bolelaw10_num n10 h21 fun r13 h22 =>
  ∃ (n16 : Int), r13 = .int .i64 n16 ∧
  bif (n16 != 0) then (
  K (.bool false) h22) else (
  bif (n1 != 101) then (
  K (.bool false) h22) else (
  bif (n3 != 103) then (
  K (.bool false) h22) else (
  bif (n5 != 103) then (
  K (.bool false) h22) else (
  ∃ (n17 : Int), cellOf h22 (Addr.add ⟨h8.size, 0, none⟩ 13) = some (.int .i64 n17) ∧
  bif (n17 != 102) then (
  K (.bool false) h22) else (
  (0 ≤ (0 : Int) ∧ 0 < (10 : Int)) ∧
  ∃ (n18 : Int), cellOf h22 (Addr.add (Addr.add ⟨h8.size, 0, none⟩ 3) (Int.toNat 0)) = some (.int .i64 n18) ∧
  bif (n18 != 101) then (
  K (.bool false) h22) else (
  bolelaw10_known.k1 sA1 sL1 sC1 sA2 sL2 sC2 h13 n9 h22 K))))))))))))
def bolelaw10_known.lo : Nat → List Nat × List (Nat × Ty) := fun n => match n with | _ => ([], [])
def bolelaw10_known.od : Nat → Od := fun n => match n with | _ => .nil
theorem bolelaw10_known.eq  (K : Value → Heap → Prop) (h : Heap) : fnX (cx bolelaw10_known.lo bolelaw10_known.od) Tryz.f18 (Tryz.f18.body.getD .skip) [] K h = bolelaw10_known  K h := by kernel_rfl
theorem bolelaw10_known.chk : fnOk (cx bolelaw10_known.lo bolelaw10_known.od) Tryz.f18 (Tryz.f18.body.getD .skip) 0 = true := by kernel_rfl
theorem bolelaw10_known.ok  {K : Value → Heap → Prop} {h : Heap} (hx : bolelaw10_known  K h) : C.bolelaw10_known  h K :=
  fn_to (cxOk _ _) Tryz.func18 (by kernel_rfl) bolelaw10_known.chk (by rw [bolelaw10_known.eq]; exact hx)

-- 19
def txn_Txn_Mark (t1 : Option Addr) (K : Value → Heap → Prop) (h1 : Heap) : Prop :=
  onSome t1 fun p1 =>
  ∃ (b1 : Bool), cellOf h1 (Addr.add p1 3) = some (.bool b1) ∧
  bif b1 then (
  K (.tuple #[.int .i64 0, .int .i64 61]) h1) else (
  onSome t1 fun p2 =>
  ∃ (sA1 : Option Addr) (sL1 : Nat) (sC1 : Nat), cellOf h1 (Addr.add p2 2) = some (.slice sA1 sL1 sC1) ∧
  K (.tuple #[.int .i64 (sL1 : Int), .int .i64 0]) h1)
def txn_Txn_Mark.lo : Nat → List Nat × List (Nat × Ty) := fun n => match n with | _ => ([], [])
def txn_Txn_Mark.od : Nat → Od := fun n => match n with | _ => .nil
theorem txn_Txn_Mark.eq (t1 : Option Addr) (K : Value → Heap → Prop) (h : Heap) : fnX (cx txn_Txn_Mark.lo txn_Txn_Mark.od) Tryz.f19 (Tryz.f19.body.getD .skip) [.pointer t1] K h = txn_Txn_Mark t1 K h := by kernel_rfl
theorem txn_Txn_Mark.chk : fnOk (cx txn_Txn_Mark.lo txn_Txn_Mark.od) Tryz.f19 (Tryz.f19.body.getD .skip) 1 = true := by kernel_rfl
theorem txn_Txn_Mark.ok {t1 : Option Addr} {K : Value → Heap → Prop} {h : Heap} (hx : txn_Txn_Mark t1 K h) : C.txn_Txn_Mark t1 h K :=
  fn_to (cxOk _ _) Tryz.func19 (by kernel_rfl) txn_Txn_Mark.chk (by rw [txn_Txn_Mark.eq]; exact hx)

-- 20
def boleref06_Txn_Mark (t1 : Option Addr) (K : Value → Heap → Prop) (h1 : Heap) : Prop :=
  onSome t1 fun p1 =>
  ∃ (b1 : Bool), cellOf h1 (Addr.add p1 2) = some (.bool b1) ∧
  bif b1 then (
  K (.tuple #[.int .i64 0, .int .i64 61]) h1) else (
  onSome t1 fun p2 =>
  ∃ (sA1 : Option Addr) (sL1 : Nat) (sC1 : Nat), cellOf h1 (Addr.add p2 1) = some (.slice sA1 sL1 sC1) ∧
  K (.tuple #[.int .i64 (sL1 : Int), .int .i64 0]) h1)
def boleref06_Txn_Mark.lo : Nat → List Nat × List (Nat × Ty) := fun n => match n with | _ => ([], [])
def boleref06_Txn_Mark.od : Nat → Od := fun n => match n with | _ => .nil
theorem boleref06_Txn_Mark.eq (t1 : Option Addr) (K : Value → Heap → Prop) (h : Heap) : fnX (cx boleref06_Txn_Mark.lo boleref06_Txn_Mark.od) Tryz.f20 (Tryz.f20.body.getD .skip) [.pointer t1] K h = boleref06_Txn_Mark t1 K h := by kernel_rfl
theorem boleref06_Txn_Mark.chk : fnOk (cx boleref06_Txn_Mark.lo boleref06_Txn_Mark.od) Tryz.f20 (Tryz.f20.body.getD .skip) 1 = true := by kernel_rfl
theorem boleref06_Txn_Mark.ok {t1 : Option Addr} {K : Value → Heap → Prop} {h : Heap} (hx : boleref06_Txn_Mark t1 K h) : C.boleref06_Txn_Mark t1 h K :=
  fn_to (cxOk _ _) Tryz.func20 (by kernel_rfl) boleref06_Txn_Mark.chk (by rw [boleref06_Txn_Mark.eq]; exact hx)

-- 21
def bolelaw10_num (e1 : Int) (K : Value → Heap → Prop) (h1 : Heap) : Prop :=
  K (.int .i64 e1) h1
def bolelaw10_num.lo : Nat → List Nat × List (Nat × Ty) := fun n => match n with | _ => ([], [])
def bolelaw10_num.od : Nat → Od := fun n => match n with | _ => .nil
theorem bolelaw10_num.eq (e1 : Int) (K : Value → Heap → Prop) (h : Heap) : fnX (cx bolelaw10_num.lo bolelaw10_num.od) Tryz.f21 (Tryz.f21.body.getD .skip) [.int .i64 e1] K h = bolelaw10_num e1 K h := by kernel_rfl
theorem bolelaw10_num.chk : fnOk (cx bolelaw10_num.lo bolelaw10_num.od) Tryz.f21 (Tryz.f21.body.getD .skip) 1 = true := by kernel_rfl
theorem bolelaw10_num.ok {e1 : Int} {K : Value → Heap → Prop} {h : Heap} (hx : bolelaw10_num e1 K h) : C.bolelaw10_num e1 h K :=
  fn_to (cxOk _ _) Tryz.func21 (by kernel_rfl) bolelaw10_num.chk (by rw [bolelaw10_num.eq]; exact hx)

-- 22
def bmap_Find.k1 (t1 : Option Addr) (k1 : Int) (h1 : Heap) (h2 : Heap) (h3 : Heap) (K : Value → Heap → Prop) : Prop :=
  ∃ cs1 : List Value, List.length cs1 = 5 ∧ Cells h3 ⟨h1.size, 0, none⟩ cs1 ∧
  ∃ cs2 : List Value, List.length cs2 = 15 ∧ Cells h3 ⟨h2.size, 0, none⟩ cs2 ∧
  List.length (cs1 : List Value) = 5 ∧
  List.length (cs2 : List Value) = 15 ∧
  New ([.pointer t1] ++ (cs1 ++ cs2)) 146 h3 fun h4 =>
  C.bmap_file_walk (some ⟨h3.size, 0, none⟩) k1 (Value.func (.func 66) #[] ⟨[]⟩) h4 fun r1 h5 =>
  ∃ (n1 : Int) (n2 : Int), r1 = .tuple #[.int .i64 n1, .int .i64 n2] ∧
  K (.tuple #[.int .i64 n1, .int .i64 n2]) h5
def bmap_Find (t1 : Option Addr) (g1 : List Value) (x1 : List Value) (k1 : Int) (K : Value → Heap → Prop) (h1 : Heap) : Prop :=
  New g1 25 h1 fun h2 =>
  New x1 44 h2 fun h3 =>
  bif (decide (k1 < 0)) then (
  K (.tuple #[.int .i64 0, .int .i64 101]) h3) else (
  bif (decide (k1 ≥ 16522)) then (
  K (.tuple #[.int .i64 0, .int .i64 101]) h3) else (
  bmap_Find.k1 t1 k1 h1 h2 h3 K))
def bmap_Find.lo : Nat → List Nat × List (Nat × Ty) := fun n => match n with | _ => ([], [])
def bmap_Find.od : Nat → Od := fun n => match n with | _ => .nil
set_option maxRecDepth 1000000 in
theorem bmap_Find.eq (t1 : Option Addr) (g1 : List Value) (x1 : List Value) (k1 : Int) (K : Value → Heap → Prop) (h : Heap) : fnX (cx bmap_Find.lo bmap_Find.od) Tryz.f22 (Tryz.f22.body.getD .skip) [.pointer t1, .agg ⟨g1⟩, .agg ⟨x1⟩, .int .i64 k1] K h = bmap_Find t1 g1 x1 k1 K h := by kernel_rfl
theorem bmap_Find.chk : fnOk (cx bmap_Find.lo bmap_Find.od) Tryz.f22 (Tryz.f22.body.getD .skip) 4 = true := by kernel_rfl
set_option maxRecDepth 1000000 in
theorem bmap_Find.ok {t1 : Option Addr} {g1 : List Value} {x1 : List Value} {k1 : Int} {K : Value → Heap → Prop} {h : Heap} (hx : bmap_Find t1 g1 x1 k1 K h) : C.bmap_Find t1 g1 x1 k1 h K :=
  fn_to (cxOk _ _) Tryz.func22 (by kernel_rfl) bmap_Find.chk (by rw [bmap_Find.eq]; exact hx)

-- 24
def bmap_Add.k1 (k1 : Int) (h1 : Heap) (h2 : Heap) (h3 : Heap) (h4 : Heap) (h5 : Heap) (h6 : Heap) (h14 : Heap) (K : Value → Heap → Prop) : Prop :=
  ∃ (q1 : Option Addr), cellOf h14 ⟨h1.size, 0, none⟩ = some (.pointer q1) ∧
  C.bmap_guard q1 h14 fun r1 h15 =>
  ∃ (g2 : Nat) (fs1 : List Value) (cs1 : List Value), r1 = .func (.func g2) ⟨fs1⟩ ⟨cs1⟩ ∧
  New z157 157 h15 fun h16 =>
  Put ⟨h15.size, 0, none⟩ (.func (.func g2) ⟨fs1⟩ ⟨cs1⟩) h16 fun h17 =>
  ∃ (q2 : Option Addr), cellOf h17 ⟨h1.size, 0, none⟩ = some (.pointer q2) ∧
  ∃ cs2 : List Value, List.length cs2 = 5 ∧ Cells h17 ⟨h2.size, 0, none⟩ cs2 ∧
  ∃ cs3 : List Value, List.length cs3 = 15 ∧ Cells h17 ⟨h3.size, 0, none⟩ cs3 ∧
  List.length (cs2 : List Value) = 5 ∧
  List.length (cs3 : List Value) = 15 ∧
  New ([.pointer q2] ++ (cs2 ++ cs3)) 146 h17 fun h18 =>
  New z144 144 h18 fun h19 =>
  Put ⟨h18.size, 0, none⟩ (.pointer (some ⟨h17.size, 0, none⟩)) h19 fun h20 =>
  ∃ (q3 : Option Addr), cellOf h20 ⟨h18.size, 0, none⟩ = some (.pointer q3) ∧
  C.bmap_file_walk q3 k1 (Value.func (.func 73) #[] ⟨[.pointer (some ⟨h1.size, 0, none⟩), .pointer (some ⟨h2.size, 0, none⟩), .pointer (some ⟨h18.size, 0, none⟩)]⟩) h20 fun r2 h21 =>
  ∃ (n1 : Int) (n2 : Int), r2 = .tuple #[.int .i64 n1, .int .i64 n2] ∧
  Put ⟨h5.size, 0, none⟩ (.int .i64 n1) h21 fun h22 =>
  Put ⟨h6.size, 0, none⟩ (.int .i64 n2) h22 fun h23 =>
  ∃ (q4 : Option Addr), cellOf h23 ⟨h18.size, 0, none⟩ = some (.pointer q4) ∧
  onSome q4 fun p1 =>
  ∃ cs4 : List Value, List.length cs4 = 15 ∧ Cells h23 (Addr.add p1 6) cs4 ∧
  ∃ (n3 : Int), cellOf h23 ⟨h5.size, 0, none⟩ = some (.int .i64 n3) ∧
  ∃ (n4 : Int), cellOf h23 ⟨h6.size, 0, none⟩ = some (.int .i64 n4) ∧
  PutRow ⟨h4.size, 0, none⟩ cs4 15 h23 fun h24 =>
  (cellOf h24 ⟨h5.size, 0, none⟩ = some (.int .i64 n3)) ∧
  (cellOf h24 ⟨h6.size, 0, none⟩ = some (.int .i64 n4)) ∧
  Put ⟨h5.size, 0, none⟩ (.int .i64 n3) h24 fun h25 =>
  (cellOf h25 ⟨h6.size, 0, none⟩ = some (.int .i64 n4)) ∧
  Put ⟨h6.size, 0, none⟩ (.int .i64 n4) h25 fun h26 =>
  D.bmap_Add_c1 (some ⟨h15.size, 0, none⟩) (some ⟨h6.size, 0, none⟩) (some ⟨h4.size, 0, none⟩) (some ⟨h5.size, 0, none⟩) h26 fun h27 =>
  ∃ res7 : List Value, List.length res7 = 15 ∧ Cells h27 ⟨h4.size, 0, none⟩ res7 ∧
  ∃ (res8 : Int), cellOf h27 ⟨h5.size, 0, none⟩ = some (.int .i64 res8) ∧
  ∃ (res9 : Int), cellOf h27 ⟨h6.size, 0, none⟩ = some (.int .i64 res9) ∧
  K (.tuple #[.agg ⟨res7⟩, .int .i64 res8, .int .i64 res9]) h27
def bmap_Add (t1 : Option Addr) (g1 : List Value) (x1 : List Value) (k1 : Int) (K : Value → Heap → Prop) (h1 : Heap) : Prop :=
  New [.pointer t1] 23 h1 fun h2 =>
  New g1 25 h2 fun h3 =>
  New x1 44 h3 fun h4 =>
  New z44 44 h4 fun h5 =>
  New z3 3 h5 fun h6 =>
  New z28 28 h6 fun h7 =>
  bif (decide (k1 < 0)) then (
  PutRow ⟨h4.size, 0, none⟩ [.int .i64 0, .int .i64 0, .int .i64 0, .int .i64 0, .int .i64 0, .int .i64 0, .int .i64 0, .int .i64 0, .int .i64 0, .int .i64 0, .int .i64 0, .int .i64 0, .int .i64 0, .int .i64 0, .int .i64 0] 15 h7 fun h8 =>
  Put ⟨h5.size, 0, none⟩ (.int .i64 0) h8 fun h9 =>
  Put ⟨h6.size, 0, none⟩ (.int .i64 101) h9 fun h10 =>
  ∃ res1 : List Value, List.length res1 = 15 ∧ Cells h10 ⟨h4.size, 0, none⟩ res1 ∧
  ∃ (res2 : Int), cellOf h10 ⟨h5.size, 0, none⟩ = some (.int .i64 res2) ∧
  ∃ (res3 : Int), cellOf h10 ⟨h6.size, 0, none⟩ = some (.int .i64 res3) ∧
  K (.tuple #[.agg ⟨res1⟩, .int .i64 res2, .int .i64 res3]) h10) else (
  bif (decide (k1 ≥ 16522)) then (
  PutRow ⟨h4.size, 0, none⟩ [.int .i64 0, .int .i64 0, .int .i64 0, .int .i64 0, .int .i64 0, .int .i64 0, .int .i64 0, .int .i64 0, .int .i64 0, .int .i64 0, .int .i64 0, .int .i64 0, .int .i64 0, .int .i64 0, .int .i64 0] 15 h7 fun h11 =>
  Put ⟨h5.size, 0, none⟩ (.int .i64 0) h11 fun h12 =>
  Put ⟨h6.size, 0, none⟩ (.int .i64 101) h12 fun h13 =>
  ∃ res4 : List Value, List.length res4 = 15 ∧ Cells h13 ⟨h4.size, 0, none⟩ res4 ∧
  ∃ (res5 : Int), cellOf h13 ⟨h5.size, 0, none⟩ = some (.int .i64 res5) ∧
  ∃ (res6 : Int), cellOf h13 ⟨h6.size, 0, none⟩ = some (.int .i64 res6) ∧
  K (.tuple #[.agg ⟨res4⟩, .int .i64 res5, .int .i64 res6]) h13) else (
  bmap_Add.k1 k1 h1 h2 h3 h4 h5 h6 h7 K))
def bmap_Add.lo : Nat → List Nat × List (Nat × Ty) := fun n => match n with | _ => ([], [])
def bmap_Add.od : Nat → Od := fun n => match n with | 7 => (.op 0 [] (.op 1 [] (.op 2 [] (.op 3 [] (.op 4 [] (.op 5 [] (.op 6 [4, 5] (.op 7 [5] (.op 8 [] .nil))))))))) | _ => .nil
set_option maxRecDepth 1000000 in
theorem bmap_Add.eq (t1 : Option Addr) (g1 : List Value) (x1 : List Value) (k1 : Int) (K : Value → Heap → Prop) (h : Heap) : fnX (cx bmap_Add.lo bmap_Add.od) Tryz.f24 (Tryz.f24.body.getD .skip) [.pointer t1, .agg ⟨g1⟩, .agg ⟨x1⟩, .int .i64 k1] K h = bmap_Add t1 g1 x1 k1 K h := by kernel_rfl
theorem bmap_Add.chk : fnOk (cx bmap_Add.lo bmap_Add.od) Tryz.f24 (Tryz.f24.body.getD .skip) 4 = true := by kernel_rfl
set_option maxRecDepth 1000000 in
theorem bmap_Add.ok {t1 : Option Addr} {g1 : List Value} {x1 : List Value} {k1 : Int} {K : Value → Heap → Prop} {h : Heap} (hx : bmap_Add t1 g1 x1 k1 K h) : C.bmap_Add t1 g1 x1 k1 h K :=
  fn_to (cxOk _ _) Tryz.func24 (by kernel_rfl) bmap_Add.chk (by rw [bmap_Add.eq]; exact hx)

-- 26
def bmap_Cut.k2 (k1 : Int) (h3 : Heap) (h4 : Heap) (h11 : Heap) (h14 : Heap) (h28 : Heap) (K : Value → Heap → Prop) : Prop :=
  bif (decide (k1 < 16522)) then (
  ∃ (q10 : Option Addr), cellOf h28 ⟨h14.size, 0, none⟩ = some (.pointer q10) ∧
  onSome q10 fun p7 =>
  ∃ (n7 : Int), cellOf h28 (Addr.add (Addr.add p7 6) 14) = some (.int .i64 n7) ∧
  bif (n7 != 0) then (
  New z3 3 h28 fun h29 =>
  Put ⟨h28.size, 0, none⟩ (.int .i64 (if (IntKind.wrap .i64 (k1 - 138)) > 0 then (IntKind.wrap .i64 (k1 - 138)) else 0)) h29 fun h30 =>
  ∃ (q11 : Option Addr), cellOf h30 ⟨h14.size, 0, none⟩ = some (.pointer q11) ∧
  ∃ (q12 : Option Addr), cellOf h30 ⟨h14.size, 0, none⟩ = some (.pointer q12) ∧
  onSome q12 fun p8 =>
  ∃ (n8 : Int), cellOf h30 (Addr.add (Addr.add p8 6) 14) = some (.int .i64 n8) ∧
  ∃ (n9 : Int), cellOf h30 ⟨h28.size, 0, none⟩ = some (.int .i64 n9) ∧
  C.bmap_file_cut q11 n8 (IntKind.wrap .i64 (Int.tdiv n9 128)) (Value.func (.func 81) #[] ⟨[.pointer (some ⟨h14.size, 0, none⟩), .pointer (some ⟨h28.size, 0, none⟩)]⟩) h30 fun r4 h31 =>
  ∃ (b2 : Bool) (n10 : Int), r4 = .tuple #[.bool b2, .int .i64 n10] ∧
  bif (n10 != 0) then (
  ∃ cs6 : List Value, List.length cs6 = 15 ∧ Cells h31 ⟨h3.size, 0, none⟩ cs6 ∧
  PutRow ⟨h3.size, 0, none⟩ cs6 15 h31 fun h32 =>
  Put ⟨h4.size, 0, none⟩ (.int .i64 n10) h32 fun h33 =>
  D.bmap_Cut_c1 (some ⟨h11.size, 0, none⟩) (some ⟨h4.size, 0, none⟩) (some ⟨h3.size, 0, none⟩) h33 fun h34 =>
  ∃ res9 : List Value, List.length res9 = 15 ∧ Cells h34 ⟨h3.size, 0, none⟩ res9 ∧
  ∃ (res10 : Int), cellOf h34 ⟨h4.size, 0, none⟩ = some (.int .i64 res10) ∧
  K (.tuple #[.agg ⟨res9⟩, .int .i64 res10]) h34) else (
  bif (!b2) then (
  ∃ (q13 : Option Addr), cellOf h31 ⟨h14.size, 0, none⟩ = some (.pointer q13) ∧
  onSome q13 fun p9 =>
  Put (Addr.add (Addr.add p9 6) 14) (.int .i64 0) h31 fun h35 =>
  ∃ (q14 : Option Addr), cellOf h35 ⟨h14.size, 0, none⟩ = some (.pointer q14) ∧
  onSome q14 fun p10 =>
  ∃ cs7 : List Value, List.length cs7 = 15 ∧ Cells h35 (Addr.add p10 6) cs7 ∧
  PutRow ⟨h3.size, 0, none⟩ cs7 15 h35 fun h36 =>
  Put ⟨h4.size, 0, none⟩ (.int .i64 0) h36 fun h37 =>
  D.bmap_Cut_c1 (some ⟨h11.size, 0, none⟩) (some ⟨h4.size, 0, none⟩) (some ⟨h3.size, 0, none⟩) h37 fun h38 =>
  ∃ res11 : List Value, List.length res11 = 15 ∧ Cells h38 ⟨h3.size, 0, none⟩ res11 ∧
  ∃ (res12 : Int), cellOf h38 ⟨h4.size, 0, none⟩ = some (.int .i64 res12) ∧
  K (.tuple #[.agg ⟨res11⟩, .int .i64 res12]) h38) else (
  ∃ (q15 : Option Addr), cellOf h31 ⟨h14.size, 0, none⟩ = some (.pointer q15) ∧
  onSome q15 fun p11 =>
  ∃ cs8 : List Value, List.length cs8 = 15 ∧ Cells h31 (Addr.add p11 6) cs8 ∧
  PutRow ⟨h3.size, 0, none⟩ cs8 15 h31 fun h39 =>
  Put ⟨h4.size, 0, none⟩ (.int .i64 0) h39 fun h40 =>
  D.bmap_Cut_c1 (some ⟨h11.size, 0, none⟩) (some ⟨h4.size, 0, none⟩) (some ⟨h3.size, 0, none⟩) h40 fun h41 =>
  ∃ res13 : List Value, List.length res13 = 15 ∧ Cells h41 ⟨h3.size, 0, none⟩ res13 ∧
  ∃ (res14 : Int), cellOf h41 ⟨h4.size, 0, none⟩ = some (.int .i64 res14) ∧
  K (.tuple #[.agg ⟨res13⟩, .int .i64 res14]) h41))) else (
  ∃ (q16 : Option Addr), cellOf h28 ⟨h14.size, 0, none⟩ = some (.pointer q16) ∧
  onSome q16 fun p12 =>
  ∃ cs9 : List Value, List.length cs9 = 15 ∧ Cells h28 (Addr.add p12 6) cs9 ∧
  PutRow ⟨h3.size, 0, none⟩ cs9 15 h28 fun h42 =>
  Put ⟨h4.size, 0, none⟩ (.int .i64 0) h42 fun h43 =>
  D.bmap_Cut_c1 (some ⟨h11.size, 0, none⟩) (some ⟨h4.size, 0, none⟩) (some ⟨h3.size, 0, none⟩) h43 fun h44 =>
  ∃ res15 : List Value, List.length res15 = 15 ∧ Cells h44 ⟨h3.size, 0, none⟩ res15 ∧
  ∃ (res16 : Int), cellOf h44 ⟨h4.size, 0, none⟩ = some (.int .i64 res16) ∧
  K (.tuple #[.agg ⟨res15⟩, .int .i64 res16]) h44)) else (
  ∃ (q17 : Option Addr), cellOf h28 ⟨h14.size, 0, none⟩ = some (.pointer q17) ∧
  onSome q17 fun p13 =>
  ∃ cs10 : List Value, List.length cs10 = 15 ∧ Cells h28 (Addr.add p13 6) cs10 ∧
  PutRow ⟨h3.size, 0, none⟩ cs10 15 h28 fun h45 =>
  Put ⟨h4.size, 0, none⟩ (.int .i64 0) h45 fun h46 =>
  D.bmap_Cut_c1 (some ⟨h11.size, 0, none⟩) (some ⟨h4.size, 0, none⟩) (some ⟨h3.size, 0, none⟩) h46 fun h47 =>
  ∃ res17 : List Value, List.length res17 = 15 ∧ Cells h47 ⟨h3.size, 0, none⟩ res17 ∧
  ∃ (res18 : Int), cellOf h47 ⟨h4.size, 0, none⟩ = some (.int .i64 res18) ∧
  K (.tuple #[.agg ⟨res17⟩, .int .i64 res18]) h47)
def bmap_Cut.k1 (t1 : Option Addr) (k1 : Int) (h1 : Heap) (h2 : Heap) (h3 : Heap) (h4 : Heap) (h10 : Heap) (K : Value → Heap → Prop) : Prop :=
  C.bmap_guard t1 h10 fun r1 h11 =>
  ∃ (g2 : Nat) (fs1 : List Value) (cs1 : List Value), r1 = .func (.func g2) ⟨fs1⟩ ⟨cs1⟩ ∧
  New z157 157 h11 fun h12 =>
  Put ⟨h11.size, 0, none⟩ (.func (.func g2) ⟨fs1⟩ ⟨cs1⟩) h12 fun h13 =>
  ∃ cs2 : List Value, List.length cs2 = 5 ∧ Cells h13 ⟨h1.size, 0, none⟩ cs2 ∧
  ∃ cs3 : List Value, List.length cs3 = 15 ∧ Cells h13 ⟨h2.size, 0, none⟩ cs3 ∧
  List.length (cs2 : List Value) = 5 ∧
  List.length (cs3 : List Value) = 15 ∧
  New ([.pointer t1] ++ (cs2 ++ cs3)) 146 h13 fun h14 =>
  New z144 144 h14 fun h15 =>
  Put ⟨h14.size, 0, none⟩ (.pointer (some ⟨h13.size, 0, none⟩)) h15 fun h16 =>
  ∃ (I1 : Int → Heap → Prop) (M1 : Int → Heap → Nat), I1 k1 h16 ∧
  ∀ (i1 : Int), ∀ h17 : Heap, I1 i1 h17 →
  bif (decide (i1 < 10)) then (
  ∃ (q1 : Option Addr), cellOf h17 ⟨h14.size, 0, none⟩ = some (.pointer q1) ∧
  onSome q1 fun p1 =>
  (0 ≤ i1 ∧ i1 < (10 : Int)) ∧
  ∃ (n1 : Int), cellOf h17 (Addr.add (Addr.add (Addr.add p1 6) 3) (Int.toNat i1)) = some (.int .i64 n1) ∧
  bif (n1 != 0) then (
  ∃ (q2 : Option Addr), cellOf h17 ⟨h14.size, 0, none⟩ = some (.pointer q2) ∧
  ∃ (q3 : Option Addr), cellOf h17 ⟨h14.size, 0, none⟩ = some (.pointer q3) ∧
  onSome q3 fun p2 =>
  (0 ≤ i1 ∧ i1 < (10 : Int)) ∧
  ∃ (n2 : Int), cellOf h17 (Addr.add (Addr.add (Addr.add p2 6) 3) (Int.toNat i1)) = some (.int .i64 n2) ∧
  C.bmap_file_give q2 n2 h17 fun r2 h18 =>
  ∃ (n3 : Int), r2 = .int .i64 n3 ∧
  bif (n3 != 0) then (
  ∃ cs4 : List Value, List.length cs4 = 15 ∧ Cells h18 ⟨h3.size, 0, none⟩ cs4 ∧
  PutRow ⟨h3.size, 0, none⟩ cs4 15 h18 fun h19 =>
  Put ⟨h4.size, 0, none⟩ (.int .i64 n3) h19 fun h20 =>
  D.bmap_Cut_c1 (some ⟨h11.size, 0, none⟩) (some ⟨h4.size, 0, none⟩) (some ⟨h3.size, 0, none⟩) h20 fun h21 =>
  ∃ res5 : List Value, List.length res5 = 15 ∧ Cells h21 ⟨h3.size, 0, none⟩ res5 ∧
  ∃ (res6 : Int), cellOf h21 ⟨h4.size, 0, none⟩ = some (.int .i64 res6) ∧
  K (.tuple #[.agg ⟨res5⟩, .int .i64 res6]) h21) else (
  ∃ (q4 : Option Addr), cellOf h18 ⟨h14.size, 0, none⟩ = some (.pointer q4) ∧
  onSome q4 fun p3 =>
  (0 ≤ i1 ∧ i1 < (10 : Int)) ∧
  Put (Addr.add (Addr.add (Addr.add p3 6) 3) (Int.toNat i1)) (.int .i64 0) h18 fun h22 =>
  I1 (IntKind.wrap .i64 (i1 + 1)) h22 ∧ M1 (IntKind.wrap .i64 (i1 + 1)) h22 < M1 i1 h17)) else (
  I1 (IntKind.wrap .i64 (i1 + 1)) h17 ∧ M1 (IntKind.wrap .i64 (i1 + 1)) h17 < M1 i1 h17)) else (
  bif (decide (k1 < 138)) then (
  ∃ (q5 : Option Addr), cellOf h17 ⟨h14.size, 0, none⟩ = some (.pointer q5) ∧
  onSome q5 fun p4 =>
  ∃ (n4 : Int), cellOf h17 (Addr.add (Addr.add p4 6) 13) = some (.int .i64 n4) ∧
  bif (n4 != 0) then (
  ∃ (q6 : Option Addr), cellOf h17 ⟨h14.size, 0, none⟩ = some (.pointer q6) ∧
  ∃ (q7 : Option Addr), cellOf h17 ⟨h14.size, 0, none⟩ = some (.pointer q7) ∧
  onSome q7 fun p5 =>
  ∃ (n5 : Int), cellOf h17 (Addr.add (Addr.add p5 6) 13) = some (.int .i64 n5) ∧
  ∃ (q8 : Option Addr), cellOf h17 ⟨h14.size, 0, none⟩ = some (.pointer q8) ∧
  C.bmap_file_cut q6 n5 (IntKind.wrap .i64 (k1 - 10)) (Value.func (.func 80) ⟨[.pointer q8]⟩ ⟨[]⟩) h17 fun r3 h23 =>
  ∃ (b1 : Bool) (n6 : Int), r3 = .tuple #[.bool b1, .int .i64 n6] ∧
  bif (n6 != 0) then (
  ∃ cs5 : List Value, List.length cs5 = 15 ∧ Cells h23 ⟨h3.size, 0, none⟩ cs5 ∧
  PutRow ⟨h3.size, 0, none⟩ cs5 15 h23 fun h24 =>
  Put ⟨h4.size, 0, none⟩ (.int .i64 n6) h24 fun h25 =>
  D.bmap_Cut_c1 (some ⟨h11.size, 0, none⟩) (some ⟨h4.size, 0, none⟩) (some ⟨h3.size, 0, none⟩) h25 fun h26 =>
  ∃ res7 : List Value, List.length res7 = 15 ∧ Cells h26 ⟨h3.size, 0, none⟩ res7 ∧
  ∃ (res8 : Int), cellOf h26 ⟨h4.size, 0, none⟩ = some (.int .i64 res8) ∧
  K (.tuple #[.agg ⟨res7⟩, .int .i64 res8]) h26) else (
  bif (!b1) then (
  ∃ (q9 : Option Addr), cellOf h23 ⟨h14.size, 0, none⟩ = some (.pointer q9) ∧
  onSome q9 fun p6 =>
  Put (Addr.add (Addr.add p6 6) 13) (.int .i64 0) h23 fun h27 =>
  bmap_Cut.k2 k1 h3 h4 h11 h14 h27 K) else (
  bmap_Cut.k2 k1 h3 h4 h11 h14 h23 K))) else (
  bmap_Cut.k2 k1 h3 h4 h11 h14 h17 K)) else (
  bmap_Cut.k2 k1 h3 h4 h11 h14 h17 K))
def bmap_Cut (t1 : Option Addr) (g1 : List Value) (x1 : List Value) (k1 : Int) (K : Value → Heap → Prop) (h1 : Heap) : Prop :=
  New g1 25 h1 fun h2 =>
  New x1 44 h2 fun h3 =>
  New z44 44 h3 fun h4 =>
  New z28 28 h4 fun h5 =>
  bif (decide (k1 < 0)) then (
  PutRow ⟨h3.size, 0, none⟩ [.int .i64 0, .int .i64 0, .int .i64 0, .int .i64 0, .int .i64 0, .int .i64 0, .int .i64 0, .int .i64 0, .int .i64 0, .int .i64 0, .int .i64 0, .int .i64 0, .int .i64 0, .int .i64 0, .int .i64 0] 15 h5 fun h6 =>
  Put ⟨h4.size, 0, none⟩ (.int .i64 101) h6 fun h7 =>
  ∃ res1 : List Value, List.length res1 = 15 ∧ Cells h7 ⟨h3.size, 0, none⟩ res1 ∧
  ∃ (res2 : Int), cellOf h7 ⟨h4.size, 0, none⟩ = some (.int .i64 res2) ∧
  K (.tuple #[.agg ⟨res1⟩, .int .i64 res2]) h7) else (
  bif (decide (k1 > 16522)) then (
  PutRow ⟨h3.size, 0, none⟩ [.int .i64 0, .int .i64 0, .int .i64 0, .int .i64 0, .int .i64 0, .int .i64 0, .int .i64 0, .int .i64 0, .int .i64 0, .int .i64 0, .int .i64 0, .int .i64 0, .int .i64 0, .int .i64 0, .int .i64 0] 15 h5 fun h8 =>
  Put ⟨h4.size, 0, none⟩ (.int .i64 101) h8 fun h9 =>
  ∃ res3 : List Value, List.length res3 = 15 ∧ Cells h9 ⟨h3.size, 0, none⟩ res3 ∧
  ∃ (res4 : Int), cellOf h9 ⟨h4.size, 0, none⟩ = some (.int .i64 res4) ∧
  K (.tuple #[.agg ⟨res3⟩, .int .i64 res4]) h9) else (
  bmap_Cut.k1 t1 k1 h1 h2 h3 h4 h5 K))
def bmap_Cut.lo : Nat → List Nat × List (Nat × Ty) := fun n => match n with | 7 => ([3, 8, 9, 11], [(12, .int .i64)]) | _ => ([], [])
def bmap_Cut.od : Nat → Od := fun n => match n with | 10 => (.op 0 [] (.op 1 [] (.op 2 [] (.op 3 [] (.op 4 [] (.op 5 [] (.op 6 [] (.op 7 [] (.op 8 [] (.op 9 [] .nil)))))))))) | 15 => (.op 0 [] (.op 1 [] (.op 2 [] (.op 3 [] (.op 4 [] (.op 5 [] (.op 6 [] (.op 7 [] (.op 8 [] (.op 9 [] (.op 10 [] (.op 11 [] (.op 12 [] (.op 13 [] (.op 14 [] (.op 15 [] .nil)))))))))))))))) | 22 => (.op 0 [] (.op 1 [] (.op 2 [] (.op 3 [] (.op 4 [] (.op 5 [] (.op 6 [] (.op 7 [] (.op 8 [] (.op 9 [] (.op 10 [] (.op 11 [] (.op 12 [] (.op 13 [] (.op 14 [] .nil))))))))))))))) | _ => .nil
set_option maxRecDepth 1000000 in
theorem bmap_Cut.eq (t1 : Option Addr) (g1 : List Value) (x1 : List Value) (k1 : Int) (K : Value → Heap → Prop) (h : Heap) : fnX (cx bmap_Cut.lo bmap_Cut.od) Tryz.f26 (Tryz.f26.body.getD .skip) [.pointer t1, .agg ⟨g1⟩, .agg ⟨x1⟩, .int .i64 k1] K h = bmap_Cut t1 g1 x1 k1 K h := by kernel_rfl
theorem bmap_Cut.chk : fnOk (cx bmap_Cut.lo bmap_Cut.od) Tryz.f26 (Tryz.f26.body.getD .skip) 4 = true := by kernel_rfl
set_option maxRecDepth 1000000 in
theorem bmap_Cut.ok {t1 : Option Addr} {g1 : List Value} {x1 : List Value} {k1 : Int} {K : Value → Heap → Prop} {h : Heap} (hx : bmap_Cut t1 g1 x1 k1 K h) : C.bmap_Cut t1 g1 x1 k1 h K :=
  fn_to (cxOk _ _) Tryz.func26 (by kernel_rfl) bmap_Cut.chk (by rw [bmap_Cut.eq]; exact hx)

-- 28
def bmap_All.k1 (h2 : Heap) (h8 : Heap) (e1 : Int) (k1 : Int) (h13 : Heap) (I1 : Int → Int → Heap → Prop) (M1 : Int → Int → Heap → Nat) (K : Value → Heap → Prop) : Prop :=
  ∃ (v1 : Value), cellOf h13 ⟨h8.size, 0, none⟩ = some (v1) ∧
  (0 ≤ k1 ∧ k1 < (10 : Int)) ∧
  ∃ (n1 : Int), cellOf h13 (Addr.add (Addr.add ⟨h2.size, 0, none⟩ 3) (Int.toNat k1)) = some (.int .i64 n1) ∧
  HCallsV Tryz.prog v1 [.int .i64 k1, .int .i64 n1] h13 fun r1 h14 =>
  ∃ (n2 : Int), r1 = .int .i64 n2 ∧
  I1 n2 (IntKind.wrap .i64 (k1 + 1)) h14 ∧ M1 n2 (IntKind.wrap .i64 (k1 + 1)) h14 < M1 e1 k1 h13
def bmap_All.k4 (h6 : Heap) (h7 : Heap) (e4 : Int) (h19 : Heap) (K : Value → Heap → Prop) : Prop :=
  bif (e4 != 0) then (
  K (.tuple #[.slice none 0 0, .slice none 0 0, .int .i64 e4]) h19) else (
  ∃ (sA1 : Option Addr) (sL1 : Nat) (sC1 : Nat), cellOf h19 ⟨h6.size, 0, none⟩ = some (.slice sA1 sL1 sC1) ∧
  ∃ (sA2 : Option Addr) (sL2 : Nat) (sC2 : Nat), cellOf h19 ⟨h7.size, 0, none⟩ = some (.slice sA2 sL2 sC2) ∧
  K (.tuple #[.slice sA1 sL1 sC1, .slice sA2 sL2 sC2, .int .i64 0]) h19)
def bmap_All.k3 (h2 : Heap) (h6 : Heap) (h7 : Heap) (h8 : Heap) (h10 : Heap) (e3 : Int) (h17 : Heap) (K : Value → Heap → Prop) : Prop :=
  bif (e3 == 0) then (
  ∃ (v3 : Value), cellOf h17 ⟨h10.size, 0, none⟩ = some (v3) ∧
  ∃ (n5 : Int), cellOf h17 (Addr.add ⟨h2.size, 0, none⟩ 14) = some (.int .i64 n5) ∧
  HCallsV Tryz.prog v3 [.int .i64 n5, .func (.func 88) #[] ⟨[.pointer (some ⟨h10.size, 0, none⟩), .pointer (some ⟨h8.size, 0, none⟩)]⟩] h17 fun r3 h18 =>
  ∃ (n6 : Int), r3 = .int .i64 n6 ∧
  bmap_All.k4 h6 h7 n6 h18 K) else (
  bmap_All.k4 h6 h7 e3 h17 K)
def bmap_All.k2 (h2 : Heap) (h6 : Heap) (h7 : Heap) (h8 : Heap) (h10 : Heap) (e2 : Int) (h15 : Heap) (K : Value → Heap → Prop) : Prop :=
  bif (e2 == 0) then (
  ∃ (v2 : Value), cellOf h15 ⟨h10.size, 0, none⟩ = some (v2) ∧
  ∃ (n3 : Int), cellOf h15 (Addr.add ⟨h2.size, 0, none⟩ 13) = some (.int .i64 n3) ∧
  HCallsV Tryz.prog v2 [.int .i64 n3, .func (.func 87) #[] ⟨[.pointer (some ⟨h8.size, 0, none⟩)]⟩] h15 fun r2 h16 =>
  ∃ (n4 : Int), r2 = .int .i64 n4 ∧
  bmap_All.k3 h2 h6 h7 h8 h10 n4 h16 K) else (
  bmap_All.k3 h2 h6 h7 h8 h10 e2 h15 K)
def bmap_All (t1 : Option Addr) (g1 : List Value) (x1 : List Value) (K : Value → Heap → Prop) (h1 : Heap) : Prop :=
  New g1 25 h1 fun h2 =>
  New x1 44 h2 fun h3 =>
  ∃ cs1 : List Value, List.length cs1 = 5 ∧ Cells h3 ⟨h1.size, 0, none⟩ cs1 ∧
  ∃ cs2 : List Value, List.length cs2 = 15 ∧ Cells h3 ⟨h2.size, 0, none⟩ cs2 ∧
  List.length (cs1 : List Value) = 5 ∧
  List.length (cs2 : List Value) = 15 ∧
  New ([.pointer t1] ++ (cs1 ++ cs2)) 146 h3 fun h4 =>
  New z144 144 h4 fun h5 =>
  Put ⟨h4.size, 0, none⟩ (.pointer (some ⟨h3.size, 0, none⟩)) h5 fun h6 =>
  New z50 50 h6 fun h7 =>
  New z22 22 h7 fun h8 =>
  New z162 162 h8 fun h9 =>
  Put ⟨h8.size, 0, none⟩ (.func (.func 83) #[] ⟨[.pointer (some ⟨h6.size, 0, none⟩), .pointer (some ⟨h4.size, 0, none⟩)]⟩) h9 fun h10 =>
  New z165 165 h10 fun h11 =>
  Put ⟨h10.size, 0, none⟩ (.func (.func 85) #[] ⟨[.pointer (some ⟨h4.size, 0, none⟩), .pointer (some ⟨h7.size, 0, none⟩)]⟩) h11 fun h12 =>
  ∃ (I1 : Int → Int → Heap → Prop) (M1 : Int → Int → Heap → Nat), I1 0 0 h12 ∧
  ∀ (e1 : Int) (k1 : Int), ∀ h13 : Heap, I1 e1 k1 h13 →
  bif (decide (k1 < 10)) then (
  bif (e1 == 0) then (
  bmap_All.k1 h2 h8 e1 k1 h13 I1 M1 K) else (
  bmap_All.k2 h2 h6 h7 h8 h10 e1 h13 K)) else (
  bmap_All.k2 h2 h6 h7 h8 h10 e1 h13 K)
def bmap_All.lo : Nat → List Nat × List (Nat × Ty) := fun n => match n with | 8 => ([5, 10, 11, 12, 13], [(14, .int .i64), (15, .int .i64)]) | _ => ([], [])
def bmap_All.od : Nat → Od := fun n => match n with | 10 => (.op 0 [] (.op 1 [] (.op 2 [] (.op 3 [] (.op 4 [] (.op 5 [] (.op 6 [] (.op 7 [] .nil)))))))) | 17 => (.op 0 [] (.op 1 [] (.op 2 [] (.op 3 [] (.op 4 [] .nil))))) | _ => .nil
theorem bmap_All.eq (t1 : Option Addr) (g1 : List Value) (x1 : List Value) (K : Value → Heap → Prop) (h : Heap) : fnX (cx bmap_All.lo bmap_All.od) Tryz.f28 (Tryz.f28.body.getD .skip) [.pointer t1, .agg ⟨g1⟩, .agg ⟨x1⟩] K h = bmap_All t1 g1 x1 K h := by kernel_rfl
theorem bmap_All.chk : fnOk (cx bmap_All.lo bmap_All.od) Tryz.f28 (Tryz.f28.body.getD .skip) 3 = true := by kernel_rfl
theorem bmap_All.ok {t1 : Option Addr} {g1 : List Value} {x1 : List Value} {K : Value → Heap → Prop} {h : Heap} (hx : bmap_All t1 g1 x1 K h) : C.bmap_All t1 g1 x1 h K :=
  fn_to (cxOk _ _) Tryz.func28 (by kernel_rfl) bmap_All.chk (by rw [bmap_All.eq]; exact hx)

-- 30
def bolelaw10_samePairs (aA1 : Option Addr) (aL1 : Nat) (aC1 : Nat) (bA1 : Option Addr) (bL1 : Nat) (bC1 : Nat) (K : Value → Heap → Prop) (h1 : Heap) : Prop :=
  bif ((aL1 : Int) != (bL1 : Int)) then (
  K (.bool false) h1) else (
  ∃ (I1 : Int → Heap → Prop) (M1 : Int → Heap → Nat), I1 0 h1 ∧
  ∀ (n1 : Int), ∀ h2 : Heap, I1 n1 h2 →
  bif (decide (n1 < (aL1 : Int))) then (
  (0 ≤ n1 ∧ n1 < (aL1 : Int)) ∧
  onSome aA1 fun p1 =>
  ∃ cs1 : List Value, List.length cs1 = 2 ∧ Cells h2 (Addr.add p1 ((Int.toNat n1) * 2)) cs1 ∧
  (0 ≤ n1 ∧ n1 < (bL1 : Int)) ∧
  onSome bA1 fun p2 =>
  ∃ cs2 : List Value, List.length cs2 = 2 ∧ Cells h2 (Addr.add p2 ((Int.toNat n1) * 2)) cs2 ∧
  pairsOk [(.int .i64), (.int .i64)] cs1 cs2 = true ∧
  bif (!(cellsEq cs1 cs2)) then (
  K (.bool false) h2) else (
  I1 (IntKind.wrap .i64 (n1 + 1)) h2 ∧ M1 (IntKind.wrap .i64 (n1 + 1)) h2 < M1 n1 h2)) else (
  K (.bool true) h2))
def bolelaw10_samePairs.lo : Nat → List Nat × List (Nat × Ty) := fun n => match n with | 4 => ([0, 1, 12], [(13, .int .i64)]) | _ => ([], [])
def bolelaw10_samePairs.od : Nat → Od := fun n => match n with | 6 => (.op 0 [] (.op 1 [] (.op 2 [] (.op 3 [] (.op 4 [] (.op 5 [] (.op 6 [] (.op 7 [] (.op 8 [] .nil))))))))) | _ => .nil
theorem bolelaw10_samePairs.eq (aA1 : Option Addr) (aL1 : Nat) (aC1 : Nat) (bA1 : Option Addr) (bL1 : Nat) (bC1 : Nat) (K : Value → Heap → Prop) (h : Heap) : fnX (cx bolelaw10_samePairs.lo bolelaw10_samePairs.od) Tryz.f30 (Tryz.f30.body.getD .skip) [.slice aA1 aL1 aC1, .slice bA1 bL1 bC1] K h = bolelaw10_samePairs aA1 aL1 aC1 bA1 bL1 bC1 K h := by kernel_rfl
theorem bolelaw10_samePairs.chk : fnOk (cx bolelaw10_samePairs.lo bolelaw10_samePairs.od) Tryz.f30 (Tryz.f30.body.getD .skip) 2 = true := by kernel_rfl
theorem bolelaw10_samePairs.ok {aA1 : Option Addr} {aL1 : Nat} {aC1 : Nat} {bA1 : Option Addr} {bL1 : Nat} {bC1 : Nat} {K : Value → Heap → Prop} {h : Heap} (hx : bolelaw10_samePairs aA1 aL1 aC1 bA1 bL1 bC1 K h) : C.bolelaw10_samePairs aA1 aL1 aC1 bA1 bL1 bC1 h K :=
  fn_to (cxOk _ _) Tryz.func30 (by kernel_rfl) bolelaw10_samePairs.chk (by rw [bolelaw10_samePairs.eq]; exact hx)
-- 31
def bolelaw10_same (aA1 : Option Addr) (aL1 : Nat) (aC1 : Nat) (bA1 : Option Addr) (bL1 : Nat) (bC1 : Nat) (K : Value → Heap → Prop) (h1 : Heap) : Prop :=
  bif ((aL1 : Int) != (bL1 : Int)) then (
  K (.bool false) h1) else (
  ∃ (I1 : Int → Heap → Prop) (M1 : Int → Heap → Nat), I1 0 h1 ∧
  ∀ (n1 : Int), ∀ h2 : Heap, I1 n1 h2 →
  bif (decide (n1 < (aL1 : Int))) then (
  (0 ≤ n1 ∧ n1 < (aL1 : Int)) ∧
  onSome aA1 fun p1 =>
  ∃ (n2 : Int), cellOf h2 (Addr.add p1 (Int.toNat n1)) = some (.int .i64 n2) ∧
  (0 ≤ n1 ∧ n1 < (bL1 : Int)) ∧
  onSome bA1 fun p2 =>
  ∃ (n3 : Int), cellOf h2 (Addr.add p2 (Int.toNat n1)) = some (.int .i64 n3) ∧
  bif (n2 != n3) then (
  K (.bool false) h2) else (
  I1 (IntKind.wrap .i64 (n1 + 1)) h2 ∧ M1 (IntKind.wrap .i64 (n1 + 1)) h2 < M1 n1 h2)) else (
  K (.bool true) h2))
def bolelaw10_same.lo : Nat → List Nat × List (Nat × Ty) := fun n => match n with | 4 => ([0, 1, 12], [(13, .int .i64)]) | _ => ([], [])
def bolelaw10_same.od : Nat → Od := fun n => match n with | 6 => (.op 0 [] (.op 1 [] (.op 2 [] (.op 3 [] (.op 4 [] (.op 5 [] (.op 6 [] (.op 7 [] (.op 8 [] .nil))))))))) | _ => .nil
theorem bolelaw10_same.eq (aA1 : Option Addr) (aL1 : Nat) (aC1 : Nat) (bA1 : Option Addr) (bL1 : Nat) (bC1 : Nat) (K : Value → Heap → Prop) (h : Heap) : fnX (cx bolelaw10_same.lo bolelaw10_same.od) Tryz.f31 (Tryz.f31.body.getD .skip) [.slice aA1 aL1 aC1, .slice bA1 bL1 bC1] K h = bolelaw10_same aA1 aL1 aC1 bA1 bL1 bC1 K h := by kernel_rfl
theorem bolelaw10_same.chk : fnOk (cx bolelaw10_same.lo bolelaw10_same.od) Tryz.f31 (Tryz.f31.body.getD .skip) 2 = true := by kernel_rfl
theorem bolelaw10_same.ok {aA1 : Option Addr} {aL1 : Nat} {aC1 : Nat} {bA1 : Option Addr} {bL1 : Nat} {bC1 : Nat} {K : Value → Heap → Prop} {h : Heap} (hx : bolelaw10_same aA1 aL1 aC1 bA1 bL1 bC1 K h) : C.bolelaw10_same aA1 aL1 aC1 bA1 bL1 bC1 h K :=
  fn_to (cxOk _ _) Tryz.func31 (by kernel_rfl) bolelaw10_same.chk (by rw [bolelaw10_same.eq]; exact hx)

-- 32
def txn_Txn_Back.k1 (t1 : Option Addr) (mark1 : Int) (h1 : Heap) (K : Value → Heap → Prop) : Prop :=
  onSome t1 fun p3 =>
  ∃ (sA2 : Option Addr) (sL2 : Nat) (sC2 : Nat), cellOf h1 (Addr.add p3 2) = some (.slice sA2 sL2 sC2) ∧
  ∃ (I1 : Int → Heap → Prop) (M1 : Int → Heap → Nat), I1 (IntKind.wrap .i64 ((sL2 : Int) - 1)) h1 ∧
  ∀ (k1 : Int), ∀ h2 : Heap, I1 k1 h2 →
  bif (decide (k1 ≥ mark1)) then (
  onSome t1 fun p4 =>
  ∃ (sA3 : Option Addr) (sL3 : Nat) (sC3 : Nat), cellOf h2 (Addr.add p4 2) = some (.slice sA3 sL3 sC3) ∧
  (0 ≤ k1 ∧ k1 < (sL3 : Int)) ∧
  onSome sA3 fun p5 =>
  ∃ (v1 : Value), cellOf h2 (Addr.add p5 (Int.toNat k1)) = some (v1) ∧
  HCallsV Tryz.prog v1 [] h2 fun r1 h3 =>
  r1 = .tuple #[] ∧
  I1 (IntKind.wrap .i64 (k1 - 1)) h3 ∧ M1 (IntKind.wrap .i64 (k1 - 1)) h3 < M1 k1 h2) else (
  onSome t1 fun p6 =>
  ∃ (sA4 : Option Addr) (sL4 : Nat) (sC4 : Nat), cellOf h2 (Addr.add p6 2) = some (.slice sA4 sL4 sC4) ∧
  (0 ≤ mark1 ∧ mark1 ≤ (sC4 : Int)) ∧
  onSome t1 fun p7 =>
  Put (Addr.add p7 2) (.slice sA4 (Int.toNat mark1) sC4) h2 fun h4 =>
  K (.int .i64 0) h4)
def txn_Txn_Back (t1 : Option Addr) (mark1 : Int) (K : Value → Heap → Prop) (h1 : Heap) : Prop :=
  onSome t1 fun p1 =>
  ∃ (b1 : Bool), cellOf h1 (Addr.add p1 3) = some (.bool b1) ∧
  bif b1 then (
  K (.int .i64 61) h1) else (
  bif (decide (mark1 < 0)) then (
  K (.int .i64 62) h1) else (
  onSome t1 fun p2 =>
  ∃ (sA1 : Option Addr) (sL1 : Nat) (sC1 : Nat), cellOf h1 (Addr.add p2 2) = some (.slice sA1 sL1 sC1) ∧
  bif (decide (mark1 > (sL1 : Int))) then (
  K (.int .i64 62) h1) else (
  txn_Txn_Back.k1 t1 mark1 h1 K)))
def txn_Txn_Back.lo : Nat → List Nat × List (Nat × Ty) := fun n => match n with | 6 => ([0, 1], [(5, .int .i64)]) | _ => ([], [])
def txn_Txn_Back.od : Nat → Od := fun n => match n with | _ => .nil
theorem txn_Txn_Back.eq (t1 : Option Addr) (mark1 : Int) (K : Value → Heap → Prop) (h : Heap) : fnX (cx txn_Txn_Back.lo txn_Txn_Back.od) Tryz.f32 (Tryz.f32.body.getD .skip) [.pointer t1, .int .i64 mark1] K h = txn_Txn_Back t1 mark1 K h := by kernel_rfl
theorem txn_Txn_Back.chk : fnOk (cx txn_Txn_Back.lo txn_Txn_Back.od) Tryz.f32 (Tryz.f32.body.getD .skip) 2 = true := by kernel_rfl
theorem txn_Txn_Back.ok {t1 : Option Addr} {mark1 : Int} {K : Value → Heap → Prop} {h : Heap} (hx : txn_Txn_Back t1 mark1 K h) : C.txn_Txn_Back t1 mark1 h K :=
  fn_to (cxOk _ _) Tryz.func32 (by kernel_rfl) txn_Txn_Back.chk (by rw [txn_Txn_Back.eq]; exact hx)

-- 33
def boleref06_Txn_Back.k1 (t1 : Option Addr) (mark1 : Int) (h1 : Heap) (K : Value → Heap → Prop) : Prop :=
  onSome t1 fun p3 =>
  ∃ (sA2 : Option Addr) (sL2 : Nat) (sC2 : Nat), cellOf h1 (Addr.add p3 1) = some (.slice sA2 sL2 sC2) ∧
  (0 ≤ mark1 ∧ mark1 ≤ (sC2 : Int)) ∧
  ∃ new1 : List Value, List.length new1 = (Int.toNat mark1) * 2 ∧ SlCells h1 sA2 new1 ∧ (∀ v ∈ new1, v.oneCell' = true) ∧
  AppendP ti226 226 none 0 0 (Int.toNat mark1) new1 h1 fun sA3 sL3 sC3 h2 =>
  onSome t1 fun p4 =>
  Put (Addr.add p4 1) (.slice sA3 sL3 sC3) h2 fun h3 =>
  K (.int .i64 0) h3
def boleref06_Txn_Back (t1 : Option Addr) (mark1 : Int) (K : Value → Heap → Prop) (h1 : Heap) : Prop :=
  onSome t1 fun p1 =>
  ∃ (b1 : Bool), cellOf h1 (Addr.add p1 2) = some (.bool b1) ∧
  bif b1 then (
  K (.int .i64 61) h1) else (
  bif (decide (mark1 < 0)) then (
  K (.int .i64 62) h1) else (
  onSome t1 fun p2 =>
  ∃ (sA1 : Option Addr) (sL1 : Nat) (sC1 : Nat), cellOf h1 (Addr.add p2 1) = some (.slice sA1 sL1 sC1) ∧
  bif (decide (mark1 > (sL1 : Int))) then (
  K (.int .i64 62) h1) else (
  boleref06_Txn_Back.k1 t1 mark1 h1 K)))
def boleref06_Txn_Back.lo : Nat → List Nat × List (Nat × Ty) := fun n => match n with | _ => ([], [])
def boleref06_Txn_Back.od : Nat → Od := fun n => match n with | _ => .nil
theorem boleref06_Txn_Back.eq (t1 : Option Addr) (mark1 : Int) (K : Value → Heap → Prop) (h : Heap) : fnX (cx boleref06_Txn_Back.lo boleref06_Txn_Back.od) Tryz.f33 (Tryz.f33.body.getD .skip) [.pointer t1, .int .i64 mark1] K h = boleref06_Txn_Back t1 mark1 K h := by kernel_rfl
theorem boleref06_Txn_Back.chk : fnOk (cx boleref06_Txn_Back.lo boleref06_Txn_Back.od) Tryz.f33 (Tryz.f33.body.getD .skip) 2 = true := by kernel_rfl
theorem boleref06_Txn_Back.ok {t1 : Option Addr} {mark1 : Int} {K : Value → Heap → Prop} {h : Heap} (hx : boleref06_Txn_Back t1 mark1 K h) : C.boleref06_Txn_Back t1 mark1 h K :=
  fn_to (cxOk _ _) Tryz.func33 (by kernel_rfl) boleref06_Txn_Back.chk (by rw [boleref06_Txn_Back.eq]; exact hx)

-- 35
def bolelaw10_index (k1 : Int) (K : Value → Heap → Prop) (h1 : Heap) : Prop :=
  K (.int .i64 (IntKind.wrap .i64 ((Int.tmod (IntKind.wrap .u64 (k1)) 16522)))) h1
def bolelaw10_index.lo : Nat → List Nat × List (Nat × Ty) := fun n => match n with | _ => ([], [])
def bolelaw10_index.od : Nat → Od := fun n => match n with | _ => .nil
set_option maxRecDepth 1000000 in
theorem bolelaw10_index.eq (k1 : Int) (K : Value → Heap → Prop) (h : Heap) : fnX (cx bolelaw10_index.lo bolelaw10_index.od) Tryz.f35 (Tryz.f35.body.getD .skip) [.int .i64 k1] K h = bolelaw10_index k1 K h := by kernel_rfl
theorem bolelaw10_index.chk : fnOk (cx bolelaw10_index.lo bolelaw10_index.od) Tryz.f35 (Tryz.f35.body.getD .skip) 1 = true := by kernel_rfl
set_option maxRecDepth 1000000 in
theorem bolelaw10_index.ok {k1 : Int} {K : Value → Heap → Prop} {h : Heap} (hx : bolelaw10_index k1 K h) : C.bolelaw10_index k1 h K :=
  fn_to (cxOk _ _) Tryz.func35 (by kernel_rfl) bolelaw10_index.chk (by rw [bolelaw10_index.eq]; exact hx)

-- 36
def txn_Txn_Written (t1 : Option Addr) (K : Value → Heap → Prop) (h1 : Heap) : Prop :=
  onSome t1 fun p1 =>
  ∃ (b1 : Bool), cellOf h1 (Addr.add p1 3) = some (.bool b1) ∧
  bif b1 then (
  K (.slice none 0 0) h1) else (
  onSome t1 fun p2 =>
  ∃ (m1 : Option Nat), cellOf h1 (Addr.add p2 1) = some (.map m1) ∧
  C.maps_Keys_map_int_byte_int_byte m1 h1 fun r1 h2 =>
  ∃ (v1 : Value), r1 = v1 ∧
  C.slices_Sorted_int v1 h2 fun r2 h3 =>
  ∃ (sA1 : Option Addr) (sL1 : Nat) (sC1 : Nat), r2 = .slice sA1 sL1 sC1 ∧
  K (.slice sA1 sL1 sC1) h3)
def txn_Txn_Written.lo : Nat → List Nat × List (Nat × Ty) := fun n => match n with | _ => ([], [])
def txn_Txn_Written.od : Nat → Od := fun n => match n with | _ => .nil
theorem txn_Txn_Written.eq (t1 : Option Addr) (K : Value → Heap → Prop) (h : Heap) : fnX (cx txn_Txn_Written.lo txn_Txn_Written.od) Tryz.f36 (Tryz.f36.body.getD .skip) [.pointer t1] K h = txn_Txn_Written t1 K h := by kernel_rfl
theorem txn_Txn_Written.chk : fnOk (cx txn_Txn_Written.lo txn_Txn_Written.od) Tryz.f36 (Tryz.f36.body.getD .skip) 1 = true := by kernel_rfl
theorem txn_Txn_Written.ok {t1 : Option Addr} {K : Value → Heap → Prop} {h : Heap} (hx : txn_Txn_Written t1 K h) : C.txn_Txn_Written t1 h K :=
  fn_to (cxOk _ _) Tryz.func36 (by kernel_rfl) txn_Txn_Written.chk (by rw [txn_Txn_Written.eq]; exact hx)

-- 37
def bolelaw10_told.k1 (t1 : Option Addr) (has1 : Option Nat) (h1 : Heap) (h2 : Heap) (sA1 : Option Addr) (sL1 : Nat) (sA2 : Option Addr) (sL2 : Nat) (h7 : Heap) (K : Value → Heap → Prop) : Prop :=
  NewM h7 fun h8 =>
  ∃ (I1 : Int → Heap → Prop) (M1 : Int → Heap → Nat), I1 0 h8 ∧
  ∀ (n4 : Int), ∀ h9 : Heap, I1 n4 h9 →
  bif (decide (n4 < (sL1 : Int))) then (
  (0 ≤ n4 ∧ n4 < (sL1 : Int)) ∧
  onSome sA1 fun p1 =>
  ∃ cs3 : List Value, List.length cs3 = 2 ∧ Cells h9 (Addr.add p1 ((Int.toNat n4) * 2)) cs3 ∧
  NewRow z56 56 cs3 2 h9 fun h11 =>
  (0 ≤ (0 : Int) ∧ 0 < (2 : Int)) ∧
  ∃ (n5 : Int), cellOf h11 (Addr.add ⟨h9.size, 0, none⟩ (Int.toNat 0)) = some (.int .i64 n5) ∧
  MapIn (.int .i64) has1 h11 fun mm2 =>
  ∃ (n6 : Int), Option.getD (mget mm2 (.i n5)) (zeroV ti3) = .int .i64 n6 ∧
  ∃ cs4 : List Value, List.length cs4 = 5 ∧ Cells h11 ⟨h1.size, 0, none⟩ cs4 ∧
  ∃ cs5 : List Value, List.length cs5 = 15 ∧ Cells h11 ⟨h2.size, 0, none⟩ cs5 ∧
  (0 ≤ (0 : Int) ∧ 0 < (2 : Int)) ∧
  ∃ (n7 : Int), cellOf h11 (Addr.add ⟨h9.size, 0, none⟩ (Int.toNat 0)) = some (.int .i64 n7) ∧
  C.bmap_Find t1 cs4 cs5 n7 h11 fun r4 h12 =>
  ∃ (n8 : Int) (n9 : Int), r4 = .tuple #[.int .i64 n8, .int .i64 n9] ∧
  bif (!(Option.isSome (mget mm2 (.i n5)))) then (
  K (.bool false) h12) else (
  (0 ≤ (1 : Int) ∧ 1 < (2 : Int)) ∧
  ∃ (n10 : Int), cellOf h12 (Addr.add ⟨h9.size, 0, none⟩ (Int.toNat 1)) = some (.int .i64 n10) ∧
  bif (n6 != n10) then (
  K (.bool false) h12) else (
  C.bolelaw10_num n9 h12 fun r5 h13 =>
  ∃ (n11 : Int), r5 = .int .i64 n11 ∧
  bif (n11 != 0) then (
  K (.bool false) h13) else (
  bif (n8 != n6) then (
  K (.bool false) h13) else (
  bif (decide (n4 > 0)) then (
  (0 ≤ (0 : Int) ∧ 0 < (2 : Int)) ∧
  ∃ (n12 : Int), cellOf h13 (Addr.add ⟨h9.size, 0, none⟩ (Int.toNat 0)) = some (.int .i64 n12) ∧
  (0 ≤ (IntKind.wrap .i64 (n4 - 1)) ∧ (IntKind.wrap .i64 (n4 - 1)) < (sL1 : Int)) ∧
  onSome sA1 fun p2 =>
  (0 ≤ (0 : Int) ∧ 0 < (2 : Int)) ∧
  ∃ (n13 : Int), cellOf h13 (Addr.add (Addr.add p2 ((Int.toNat (IntKind.wrap .i64 (n4 - 1))) * 2)) (Int.toNat 0)) = some (.int .i64 n13) ∧
  bif (decide (n12 ≤ n13)) then (
  K (.bool false) h13) else (
  MapIn (.int .i64) (some h7.size) h13 fun mm3 =>
  ∃ (n14 : Int), Option.getD (mget mm3 (.i n6)) (zeroV ti3) = .int .i64 n14 ∧
  MapPut (.int .i64) h7.size (.i n6) (.int .i64 (IntKind.wrap .i64 (n14 + 1))) h13 fun h14 =>
  I1 (IntKind.wrap .i64 (n4 + 1)) h14 ∧ M1 (IntKind.wrap .i64 (n4 + 1)) h14 < M1 n4 h9)) else (
  MapIn (.int .i64) (some h7.size) h13 fun mm4 =>
  ∃ (n15 : Int), Option.getD (mget mm4 (.i n6)) (zeroV ti3) = .int .i64 n15 ∧
  MapPut (.int .i64) h7.size (.i n6) (.int .i64 (IntKind.wrap .i64 (n15 + 1))) h13 fun h15 =>
  I1 (IntKind.wrap .i64 (n4 + 1)) h15 ∧ M1 (IntKind.wrap .i64 (n4 + 1)) h15 < M1 n4 h9)))))) else (
  ∃ (I2 : Int → Heap → Prop) (M2 : Int → Heap → Nat), I2 0 h9 ∧
  ∀ (n16 : Int), ∀ h16 : Heap, I2 n16 h16 →
  bif (decide (n16 < (sL2 : Int))) then (
  (0 ≤ n16 ∧ n16 < (sL2 : Int)) ∧
  onSome sA2 fun p3 =>
  ∃ (n17 : Int), cellOf h16 (Addr.add p3 (Int.toNat n16)) = some (.int .i64 n17) ∧
  MapIn (.int .i64) (some h7.size) h16 fun mm5 =>
  ∃ (n18 : Int), Option.getD (mget mm5 (.i n17)) (zeroV ti3) = .int .i64 n18 ∧
  MapPut (.int .i64) h7.size (.i n17) (.int .i64 (IntKind.wrap .i64 (n18 + 1))) h16 fun h17 =>
  I2 (IntKind.wrap .i64 (n16 + 1)) h17 ∧ M2 (IntKind.wrap .i64 (n16 + 1)) h17 < M2 n16 h16) else (
  ∃ m1 : MapI, MapAt (.int .i64) h16 h7.size (mI m1) ∧ ∀ h18 : Heap, NewIt h16 h7.size m1 h18 →
  ∃ (I3 : Heap → Prop) (M3 : Heap → Nat), I3  h18 ∧
  ∀ h19 : Heap, I3  h19 →
  Addr.off ⟨h16.size, 0, none⟩ = 0 ∧
  ∃ (r6 : Nat) (m2 left1 : MapI), MItAt h19 (Addr.block ⟨h16.size, 0, none⟩) r6 m2 left1 ∧
  (left1 = [] →
  K (.bool true) h19) ∧
  (∀ e1 ∈ left1, ∀ h20 : Heap, ItTo h19 (Addr.block ⟨h16.size, 0, none⟩) r6 m2 left1 e1 h20 →
  Addr.off ⟨h16.size, 0, none⟩ = 0 ∧
  ∃ (r7 : Nat) (n19 n20 : Int), MCur h20 (Addr.block ⟨h16.size, 0, none⟩) r7 n19 n20 ∧
  ∃ cs6 : List Value, List.length cs6 = 5 ∧ Cells h20 ⟨h1.size, 0, none⟩ cs6 ∧
  C.space_Used t1 cs6 n19 h20 fun r8 h21 =>
  ∃ (b1 : Bool) (n21 : Int), r8 = .tuple #[.bool b1, .int .i64 n21] ∧
  bif (n20 != 1) then (
  K (.bool false) h21) else (
  C.bolelaw10_num n21 h21 fun r9 h22 =>
  ∃ (n22 : Int), r9 = .int .i64 n22 ∧
  bif (n22 != 0) then (
  K (.bool false) h22) else (
  bif (!b1) then (
  K (.bool false) h22) else (
  ∃ (n23 : Int), cellOf h22 (Addr.add ⟨h1.size, 0, none⟩ 3) = some (.int .i64 n23) ∧
  bif (decide (n19 < n23)) then (
  K (.bool false) h22) else (
  ∃ (n24 : Int), cellOf h22 (Addr.add ⟨h1.size, 0, none⟩ 0) = some (.int .i64 n24) ∧
  bif (decide (n19 ≥ n24)) then (
  K (.bool false) h22) else (
  I3  h22 ∧ M3  h22 < M3  h19))))))))
def bolelaw10_told (t1 : Option Addr) (g1 : List Value) (x1 : List Value) (has1 : Option Nat) (K : Value → Heap → Prop) (h1 : Heap) : Prop :=
  New g1 25 h1 fun h2 =>
  New x1 44 h2 fun h3 =>
  ∃ cs1 : List Value, List.length cs1 = 5 ∧ Cells h3 ⟨h1.size, 0, none⟩ cs1 ∧
  ∃ cs2 : List Value, List.length cs2 = 15 ∧ Cells h3 ⟨h2.size, 0, none⟩ cs2 ∧
  C.bmap_All t1 cs1 cs2 h3 fun r1 h4 =>
  ∃ (sA1 : Option Addr) (sL1 : Nat) (sC1 : Nat) (sA2 : Option Addr) (sL2 : Nat) (sC2 : Nat) (n1 : Int), r1 = .tuple #[.slice sA1 sL1 sC1, .slice sA2 sL2 sC2, .int .i64 n1] ∧
  C.bolelaw10_num n1 h4 fun r2 h5 =>
  ∃ (n2 : Int), r2 = .int .i64 n2 ∧
  bif (n2 != 0) then (
  K (.bool false) h5) else (
  MapIn (.int .i64) has1 h5 fun mm1 =>
  bif ((sL1 : Int) != (List.length mm1 : Int)) then (
  K (.bool false) h5) else (
  C.bolelaw10_takes has1 h5 fun r3 h6 =>
  ∃ (n3 : Int), r3 = .int .i64 n3 ∧
  bif ((IntKind.wrap .i64 ((sL1 : Int) + (sL2 : Int))) != n3) then (
  K (.bool false) h6) else (
  bolelaw10_told.k1 t1 has1 h1 h2 sA1 sL1 sA2 sL2 h6 K)))
def bolelaw10_told.lo : Nat → List Nat × List (Nat × Ty) := fun n => match n with | 6 => ([0, 3, 5, 6, 9, 10, 12, 54, 55], [(56, .int .i64)]) | 15 => ([0, 5, 12, 115, 116], [(117, .int .i64)]) | 20 => ([0, 5, 127], []) | _ => ([], [])
def bolelaw10_told.od : Nat → Od := fun n => match n with | 10 => (.op 0 [] (.op 1 [] (.op 2 [] (.op 3 [] (.op 4 [] (.op 5 [] (.op 6 [] (.op 7 [] (.op 8 [] (.op 9 [] (.op 10 [] (.op 11 [] (.op 12 [] (.op 13 [] (.op 14 [] (.op 15 [] (.op 16 [] (.op 17 [] (.op 18 [] (.op 19 [] (.op 20 [] (.op 21 [] (.op 22 [] (.op 23 [] (.op 24 [] (.op 25 [] (.op 26 [] (.op 27 [] (.op 28 [] (.op 29 [] (.op 30 [] (.op 31 [] (.op 32 [] .nil))))))))))))))))))))))))))))))))) | _ => .nil
theorem bolelaw10_told.eq (t1 : Option Addr) (g1 : List Value) (x1 : List Value) (has1 : Option Nat) (K : Value → Heap → Prop) (h : Heap) : fnX (cx bolelaw10_told.lo bolelaw10_told.od) Tryz.f37 (Tryz.f37.body.getD .skip) [.pointer t1, .agg ⟨g1⟩, .agg ⟨x1⟩, .map has1] K h = bolelaw10_told t1 g1 x1 has1 K h := by kernel_rfl
theorem bolelaw10_told.chk : fnOk (cx bolelaw10_told.lo bolelaw10_told.od) Tryz.f37 (Tryz.f37.body.getD .skip) 4 = true := by kernel_rfl
theorem bolelaw10_told.ok {t1 : Option Addr} {g1 : List Value} {x1 : List Value} {has1 : Option Nat} {K : Value → Heap → Prop} {h : Heap} (hx : bolelaw10_told t1 g1 x1 has1 K h) : C.bolelaw10_told t1 g1 x1 has1 h K :=
  fn_to (cxOk _ _) Tryz.func37 (by kernel_rfl) bolelaw10_told.chk (by rw [bolelaw10_told.eq]; exact hx)

-- 38
def bolelaw10_takes (has1 : Option Nat) (K : Value → Heap → Prop) (h1 : Heap) : Prop :=
  NewM h1 fun h2 =>
  onSome has1 fun r1 =>
  ∃ m1 : MapI, MapAt (.int .i64) h2 r1 (mI m1) ∧ ∀ h3 : Heap, NewIt h2 r1 m1 h3 →
  ∃ (I1 : Heap → Prop) (M1 : Heap → Nat), I1  h3 ∧
  ∀ h4 : Heap, I1  h4 →
  Addr.off ⟨h2.size, 0, none⟩ = 0 ∧
  ∃ (r2 : Nat) (m2 left1 : MapI), MItAt h4 (Addr.block ⟨h2.size, 0, none⟩) r2 m2 left1 ∧
  (left1 = [] →
  MapIn (.int .i64) has1 h4 fun mm1 =>
  MapIn (.int .i64) (some h1.size) h4 fun mm2 =>
  K (.int .i64 (IntKind.wrap .i64 ((List.length mm1 : Int) + (List.length mm2 : Int)))) h4) ∧
  (∀ e1 ∈ left1, ∀ h5 : Heap, ItTo h4 (Addr.block ⟨h2.size, 0, none⟩) r2 m2 left1 e1 h5 →
  Addr.off ⟨h2.size, 0, none⟩ = 0 ∧
  ∃ (r3 : Nat) (n1 n2 : Int), MCur h5 (Addr.block ⟨h2.size, 0, none⟩) r3 n1 n2 ∧
  bif (decide (n1 ≥ 138)) then (
  MapIn (.int .i64) (some h1.size) h5 fun mm3 =>
  ∃ (n3 : Int), Option.getD (mget mm3 (.i (-1))) (zeroV ti3) = .int .i64 n3 ∧
  MapPut (.int .i64) h1.size (.i (-1)) (.int .i64 (IntKind.wrap .i64 (n3 + 1))) h5 fun h6 =>
  MapIn (.int .i64) (some h1.size) h6 fun mm4 =>
  ∃ (n4 : Int), Option.getD (mget mm4 (.i (IntKind.wrap .i64 (Int.tdiv (IntKind.wrap .i64 (n1 - 138)) 128)))) (zeroV ti3) = .int .i64 n4 ∧
  MapPut (.int .i64) h1.size (.i (IntKind.wrap .i64 (Int.tdiv (IntKind.wrap .i64 (n1 - 138)) 128))) (.int .i64 (IntKind.wrap .i64 (n4 + 1))) h6 fun h7 =>
  I1  h7 ∧ M1  h7 < M1  h4) else (
  bif (decide (n1 ≥ 10)) then (
  MapIn (.int .i64) (some h1.size) h5 fun mm5 =>
  ∃ (n5 : Int), Option.getD (mget mm5 (.i (-2))) (zeroV ti3) = .int .i64 n5 ∧
  MapPut (.int .i64) h1.size (.i (-2)) (.int .i64 (IntKind.wrap .i64 (n5 + 1))) h5 fun h8 =>
  I1  h8 ∧ M1  h8 < M1  h4) else (
  I1  h5 ∧ M1  h5 < M1  h4)))
def bolelaw10_takes.lo : Nat → List Nat × List (Nat × Ty) := fun n => match n with | 3 => ([0, 3, 7], []) | _ => ([], [])
def bolelaw10_takes.od : Nat → Od := fun n => match n with | _ => .nil
theorem bolelaw10_takes.eq (has1 : Option Nat) (K : Value → Heap → Prop) (h : Heap) : fnX (cx bolelaw10_takes.lo bolelaw10_takes.od) Tryz.f38 (Tryz.f38.body.getD .skip) [.map has1] K h = bolelaw10_takes has1 K h := by kernel_rfl
theorem bolelaw10_takes.chk : fnOk (cx bolelaw10_takes.lo bolelaw10_takes.od) Tryz.f38 (Tryz.f38.body.getD .skip) 1 = true := by kernel_rfl
theorem bolelaw10_takes.ok {has1 : Option Nat} {K : Value → Heap → Prop} {h : Heap} (hx : bolelaw10_takes has1 K h) : C.bolelaw10_takes has1 h K :=
  fn_to (cxOk _ _) Tryz.func38 (by kernel_rfl) bolelaw10_takes.chk (by rw [bolelaw10_takes.eq]; exact hx)

-- 39
def txn_Txn_Read.k1 (t1 : Option Addr) (i1 : Int) (h3 : Heap) (K : Value → Heap → Prop) : Prop :=
  onSome t1 fun p3 =>
  ∃ (m1 : Option Nat), cellOf h3 (Addr.add p3 1) = some (.map m1) ∧
  MapIn (.int .i64) m1 h3 fun mm1 =>
  ∃ (sA1 : Option Addr) (sL1 : Nat) (sC1 : Nat), Option.getD (mget mm1 (.i i1)) (zeroV ti33) = .slice sA1 sL1 sC1 ∧
  bif (Option.isSome (mget mm1 (.i i1))) then (
  C.slices_Clone_byte_byte sA1 sL1 sC1 h3 fun r2 h4 =>
  ∃ (sA2 : Option Addr) (sL2 : Nat) (sC2 : Nat), r2 = .slice sA2 sL2 sC2 ∧
  K (.tuple #[.slice sA2 sL2 sC2, .int .i64 0]) h4) else (
  onSome t1 fun p4 =>
  ∃ (q2 : Option Addr), cellOf h3 (Addr.add p4 0) = some (.pointer q2) ∧
  C.adisk_Disk_Read q2 i1 h3 fun r3 h5 =>
  ∃ (sA3 : Option Addr) (sL3 : Nat) (sC3 : Nat) (n2 : Int), r3 = .tuple #[.slice sA3 sL3 sC3, .int .i64 n2] ∧
  K (.tuple #[.slice sA3 sL3 sC3, .int .i64 n2]) h5)
def txn_Txn_Read (t1 : Option Addr) (i1 : Int) (K : Value → Heap → Prop) (h1 : Heap) : Prop :=
  onSome t1 fun p1 =>
  ∃ (b1 : Bool), cellOf h1 (Addr.add p1 3) = some (.bool b1) ∧
  bif b1 then (
  K (.tuple #[.slice none 0 0, .int .i64 61]) h1) else (
  bif (decide (i1 < 0)) then (
  K (.tuple #[.slice none 0 0, .int .i64 31]) h1) else (
  onSome t1 fun p2 =>
  ∃ (q1 : Option Addr), cellOf h1 (Addr.add p2 0) = some (.pointer q1) ∧
  C.adisk_Disk_Blocks q1 h1 fun r1 h2 =>
  ∃ (n1 : Int), r1 = .int .i64 n1 ∧
  bif (decide (i1 ≥ n1)) then (
  K (.tuple #[.slice none 0 0, .int .i64 31]) h2) else (
  txn_Txn_Read.k1 t1 i1 h2 K)))
def txn_Txn_Read.lo : Nat → List Nat × List (Nat × Ty) := fun n => match n with | _ => ([], [])
def txn_Txn_Read.od : Nat → Od := fun n => match n with | _ => .nil
theorem txn_Txn_Read.eq (t1 : Option Addr) (i1 : Int) (K : Value → Heap → Prop) (h : Heap) : fnX (cx txn_Txn_Read.lo txn_Txn_Read.od) Tryz.f39 (Tryz.f39.body.getD .skip) [.pointer t1, .int .i64 i1] K h = txn_Txn_Read t1 i1 K h := by kernel_rfl
theorem txn_Txn_Read.chk : fnOk (cx txn_Txn_Read.lo txn_Txn_Read.od) Tryz.f39 (Tryz.f39.body.getD .skip) 2 = true := by kernel_rfl
theorem txn_Txn_Read.ok {t1 : Option Addr} {i1 : Int} {K : Value → Heap → Prop} {h : Heap} (hx : txn_Txn_Read t1 i1 K h) : C.txn_Txn_Read t1 i1 h K :=
  fn_to (cxOk _ _) Tryz.func39 (by kernel_rfl) txn_Txn_Read.chk (by rw [txn_Txn_Read.eq]; exact hx)

-- 40
def space_Used (t1 : Option Addr) (g1 : List Value) (i1 : Int) (K : Value → Heap → Prop) (h1 : Heap) : Prop :=
  New g1 25 h1 fun h2 =>
  ∃ cs1 : List Value, List.length cs1 = 5 ∧ Cells h2 ⟨h1.size, 0, none⟩ cs1 ∧
  C.space_bit t1 cs1 i1 h2 fun r1 h3 =>
  ∃ (n1 : Int) (sA1 : Option Addr) (sL1 : Nat) (sC1 : Nat) (n2 : Int) (n3 : Int), r1 = .tuple #[.int .i64 n1, .slice sA1 sL1 sC1, .int .i64 n2, .int .i64 n3] ∧
  bif (n3 != 0) then (
  K (.tuple #[.bool false, .int .i64 n3]) h3) else (
  C.bits_Get sA1 sL1 sC1 n2 h3 fun r2 h4 =>
  ∃ (b1 : Bool) (n4 : Int), r2 = .tuple #[.bool b1, .int .i64 n4] ∧
  K (.tuple #[.bool b1, .int .i64 n4]) h4)
def space_Used.lo : Nat → List Nat × List (Nat × Ty) := fun n => match n with | _ => ([], [])
def space_Used.od : Nat → Od := fun n => match n with | _ => .nil
theorem space_Used.eq (t1 : Option Addr) (g1 : List Value) (i1 : Int) (K : Value → Heap → Prop) (h : Heap) : fnX (cx space_Used.lo space_Used.od) Tryz.f40 (Tryz.f40.body.getD .skip) [.pointer t1, .agg ⟨g1⟩, .int .i64 i1] K h = space_Used t1 g1 i1 K h := by kernel_rfl
theorem space_Used.chk : fnOk (cx space_Used.lo space_Used.od) Tryz.f40 (Tryz.f40.body.getD .skip) 3 = true := by kernel_rfl
theorem space_Used.ok {t1 : Option Addr} {g1 : List Value} {i1 : Int} {K : Value → Heap → Prop} {h : Heap} (hx : space_Used t1 g1 i1 K h) : C.space_Used t1 g1 i1 h K :=
  fn_to (cxOk _ _) Tryz.func40 (by kernel_rfl) space_Used.chk (by rw [space_Used.eq]; exact hx)

-- 44
def boleref09_Geo (n1 : Int) (K : Value → Heap → Prop) (h1 : Heap) : Prop :=
  NewRow z25 25 [.int .i64 n1, .int .i64 98, .int .i64 (IntKind.wrap .i64 (98 + (IntKind.wrap .i64 (Int.tdiv (IntKind.wrap .i64 ((IntKind.wrap .i64 (n1 + 4096)) - 1)) 4096)))), .int .i64 (IntKind.wrap .i64 ((IntKind.wrap .i64 (98 + (IntKind.wrap .i64 (Int.tdiv (IntKind.wrap .i64 ((IntKind.wrap .i64 (n1 + 4096)) - 1)) 4096)))) + (IntKind.wrap .i64 (Int.tdiv n1 64)))), .int .i64 (IntKind.wrap .i64 (8 * (IntKind.wrap .i64 (Int.tdiv n1 64))))] 5 h1 fun h3 =>
  ∃ res1 : List Value, List.length res1 = 5 ∧ Cells h3 ⟨h1.size, 0, none⟩ res1 ∧
  K (.agg ⟨res1⟩) h3
def boleref09_Geo.lo : Nat → List Nat × List (Nat × Ty) := fun n => match n with | _ => ([], [])
def boleref09_Geo.od : Nat → Od := fun n => match n with | _ => .nil
theorem boleref09_Geo.eq (n1 : Int) (K : Value → Heap → Prop) (h : Heap) : fnX (cx boleref09_Geo.lo boleref09_Geo.od) Tryz.f44 (Tryz.f44.body.getD .skip) [.int .i64 n1] K h = boleref09_Geo n1 K h := by kernel_rfl
theorem boleref09_Geo.chk : fnOk (cx boleref09_Geo.lo boleref09_Geo.od) Tryz.f44 (Tryz.f44.body.getD .skip) 1 = true := by kernel_rfl
theorem boleref09_Geo.ok {n1 : Int} {K : Value → Heap → Prop} {h : Heap} (hx : boleref09_Geo n1 K h) : C.boleref09_Geo n1 h K :=
  fn_to (cxOk _ _) Tryz.func44 (by kernel_rfl) boleref09_Geo.chk (by rw [boleref09_Geo.eq]; exact hx)

-- 46
def adisk_Open (imageA1 : Option Addr) (imageL1 : Nat) (imageC1 : Nat) (K : Value → Heap → Prop) (h1 : Heap) : Prop :=
  bif ((Int.tmod (imageL1 : Int) 512) != 0) then (
  K (.tuple #[.pointer none, .int .i64 32]) h1) else (
  C.adisk_New (IntKind.wrap .i64 (Int.tdiv (imageL1 : Int) 512)) h1 fun r1 h2 =>
  ∃ (q1 : Option Addr) (n1 : Int), r1 = .tuple #[.pointer q1, .int .i64 n1] ∧
  bif (n1 != 0) then (
  K (.tuple #[.pointer none, .int .i64 n1]) h2) else (
  onSome q1 fun p1 =>
  ∃ (sA1 : Option Addr) (sL1 : Nat) (sC1 : Nat), cellOf h2 (Addr.add p1 0) = some (.slice sA1 sL1 sC1) ∧
  ∃ (I1 : Int → Heap → Prop) (M1 : Int → Heap → Nat), I1 0 h2 ∧
  ∀ (n2 : Int), ∀ h3 : Heap, I1 n2 h3 →
  bif (decide (n2 < (sL1 : Int))) then (
  onSome q1 fun p2 =>
  ∃ (sA2 : Option Addr) (sL2 : Nat) (sC2 : Nat), cellOf h3 (Addr.add p2 0) = some (.slice sA2 sL2 sC2) ∧
  (0 ≤ n2 ∧ n2 < (sL2 : Int)) ∧
  onSome sA2 fun p3 =>
  (0 ≤ (IntKind.wrap .i64 (n2 * 512)) ∧ (IntKind.wrap .i64 (n2 * 512)) ≤ (imageL1 : Int)) ∧
  CopyP ti5 (some (Addr.add p3 ((Int.toNat n2) * 512))) 512 (.slice (if imageC1 = (Int.toNat (IntKind.wrap .i64 (n2 * 512))) then imageA1 else Option.map (Addr.add · (Int.toNat (IntKind.wrap .i64 (n2 * 512)))) imageA1) (imageL1 - (Int.toNat (IntKind.wrap .i64 (n2 * 512)))) (imageC1 - (Int.toNat (IntKind.wrap .i64 (n2 * 512))))) h3 fun n3 h4 =>
  I1 (IntKind.wrap .i64 (n2 + 1)) h4 ∧ M1 (IntKind.wrap .i64 (n2 + 1)) h4 < M1 n2 h3) else (
  K (.tuple #[.pointer q1, .int .i64 0]) h3)))
def adisk_Open.lo : Nat → List Nat × List (Nat × Ty) := fun n => match n with | 7 => ([0, 4, 25], [(26, .int .i64)]) | _ => ([], [])
def adisk_Open.od : Nat → Od := fun n => match n with | 9 => (.op 0 [] (.op 1 [] (.op 2 [] (.op 3 [] (.op 4 [] (.op 5 [] (.op 6 [] (.op 7 [] (.op 8 [] (.op 9 [] (.op 10 [] (.op 11 [] .nil)))))))))))) | _ => .nil
theorem adisk_Open.eq (imageA1 : Option Addr) (imageL1 : Nat) (imageC1 : Nat) (K : Value → Heap → Prop) (h : Heap) : fnX (cx adisk_Open.lo adisk_Open.od) Tryz.f46 (Tryz.f46.body.getD .skip) [.slice imageA1 imageL1 imageC1] K h = adisk_Open imageA1 imageL1 imageC1 K h := by kernel_rfl
theorem adisk_Open.chk : fnOk (cx adisk_Open.lo adisk_Open.od) Tryz.f46 (Tryz.f46.body.getD .skip) 1 = true := by kernel_rfl
theorem adisk_Open.ok {imageA1 : Option Addr} {imageL1 : Nat} {imageC1 : Nat} {K : Value → Heap → Prop} {h : Heap} (hx : adisk_Open imageA1 imageL1 imageC1 K h) : C.adisk_Open imageA1 imageL1 imageC1 h K :=
  fn_to (cxOk _ _) Tryz.func46 (by kernel_rfl) adisk_Open.chk (by rw [adisk_Open.eq]; exact hx)

-- 47
def txn_Begin (d1 : Option Addr) (K : Value → Heap → Prop) (h1 : Heap) : Prop :=
  NewM h1 fun h2 =>
  New [.pointer d1, .map (some h1.size), .slice none 0 0, .bool false] 140 h2 fun h3 =>
  K (.pointer (some ⟨h2.size, 0, none⟩)) h3
def txn_Begin.lo : Nat → List Nat × List (Nat × Ty) := fun n => match n with | _ => ([], [])
def txn_Begin.od : Nat → Od := fun n => match n with | _ => .nil
theorem txn_Begin.eq (d1 : Option Addr) (K : Value → Heap → Prop) (h : Heap) : fnX (cx txn_Begin.lo txn_Begin.od) Tryz.f47 (Tryz.f47.body.getD .skip) [.pointer d1] K h = txn_Begin d1 K h := by kernel_rfl
theorem txn_Begin.chk : fnOk (cx txn_Begin.lo txn_Begin.od) Tryz.f47 (Tryz.f47.body.getD .skip) 1 = true := by kernel_rfl
theorem txn_Begin.ok {d1 : Option Addr} {K : Value → Heap → Prop} {h : Heap} (hx : txn_Begin d1 K h) : C.txn_Begin d1 h K :=
  fn_to (cxOk _ _) Tryz.func47 (by kernel_rfl) txn_Begin.chk (by rw [txn_Begin.eq]; exact hx)

-- 49
def space_each (t1 : Option Addr) (g1 : List Value) (do1 : Value) (K : Value → Heap → Prop) (h1 : Heap) : Prop :=
  New g1 25 h1 fun h2 =>
  ∃ (n1 : Int), cellOf h2 (Addr.add ⟨h1.size, 0, none⟩ 1) = some (.int .i64 n1) ∧
  ∃ (I1 : Int → Heap → Prop) (M1 : Int → Heap → Nat), I1 n1 h2 ∧
  ∀ (k1 : Int), ∀ h3 : Heap, I1 k1 h3 →
  ∃ (n2 : Int), cellOf h3 (Addr.add ⟨h1.size, 0, none⟩ 2) = some (.int .i64 n2) ∧
  bif (decide (k1 < n2)) then (
  C.txn_Txn_Read t1 k1 h3 fun r1 h4 =>
  ∃ (sA1 : Option Addr) (sL1 : Nat) (sC1 : Nat) (n3 : Int), r1 = .tuple #[.slice sA1 sL1 sC1, .int .i64 n3] ∧
  bif (n3 != 0) then (
  K (.int .i64 n3) h4) else (
  ∃ (n4 : Int), cellOf h4 (Addr.add ⟨h1.size, 0, none⟩ 1) = some (.int .i64 n4) ∧
  HCallsV Tryz.prog do1 [.int .i64 (IntKind.wrap .i64 (4096 * (IntKind.wrap .i64 (k1 - n4)))), .slice sA1 sL1 sC1] h4 fun r2 h5 =>
  ∃ (b1 : Bool), r2 = .bool b1 ∧
  bif (!b1) then (
  K (.int .i64 0) h5) else (
  I1 (IntKind.wrap .i64 (k1 + 1)) h5 ∧ M1 (IntKind.wrap .i64 (k1 + 1)) h5 < M1 k1 h3))) else (
  K (.int .i64 0) h3)
def space_each.lo : Nat → List Nat × List (Nat × Ty) := fun n => match n with | 2 => ([0, 2, 4], [(7, .int .i64)]) | _ => ([], [])
def space_each.od : Nat → Od := fun n => match n with | _ => .nil
theorem space_each.eq (t1 : Option Addr) (g1 : List Value) (do1 : Value) (K : Value → Heap → Prop) (h : Heap) : fnX (cx space_each.lo space_each.od) Tryz.f49 (Tryz.f49.body.getD .skip) [.pointer t1, .agg ⟨g1⟩, do1] K h = space_each t1 g1 do1 K h := by kernel_rfl
theorem space_each.chk : fnOk (cx space_each.lo space_each.od) Tryz.f49 (Tryz.f49.body.getD .skip) 3 = true := by kernel_rfl
theorem space_each.ok {t1 : Option Addr} {g1 : List Value} {do1 : Value} {K : Value → Heap → Prop} {h : Heap} (hx : space_each t1 g1 do1 K h) : C.space_each t1 g1 do1 h K :=
  fn_to (cxOk _ _) Tryz.func49 (by kernel_rfl) space_each.chk (by rw [space_each.eq]; exact hx)
-- 50
def space_Free_c1 (first1 : Int) (bA1 : Option Addr) (bL1 : Nat) (bC1 : Nat) (cap1 : Option Addr) (cap2 : Option Addr) (K : Value → Heap → Prop) (h1 : Heap) : Prop :=
  onSome cap1 fun p1 =>
  ∃ cs1 : List Value, List.length cs1 = 5 ∧ Cells h1 p1 cs1 ∧
  C.space_rows cs1 first1 bA1 bL1 bC1 (Value.func (.func 52) #[] ⟨[.pointer cap2]⟩) h1 fun r1 h2 =>
  r1 = .tuple #[] ∧
  K (.bool true) h2
def space_Free_c1.lo : Nat → List Nat × List (Nat × Ty) := fun n => match n with | _ => ([], [])
def space_Free_c1.od : Nat → Od := fun n => match n with | _ => .nil
theorem space_Free_c1.eq (first1 : Int) (bA1 : Option Addr) (bL1 : Nat) (bC1 : Nat) (cap1 : Option Addr) (cap2 : Option Addr) (K : Value → Heap → Prop) (h : Heap) : fnX (cx space_Free_c1.lo space_Free_c1.od) Tryz.f50 (Tryz.f50.body.getD .skip) [.int .i64 first1, .slice bA1 bL1 bC1, .pointer cap1, .pointer cap2] K h = space_Free_c1 first1 bA1 bL1 bC1 cap1 cap2 K h := by kernel_rfl
theorem space_Free_c1.chk : fnOk (cx space_Free_c1.lo space_Free_c1.od) Tryz.f50 (Tryz.f50.body.getD .skip) 4 = true := by kernel_rfl
theorem space_Free_c1.ok {first1 : Int} {bA1 : Option Addr} {bL1 : Nat} {bC1 : Nat} {cap1 : Option Addr} {cap2 : Option Addr} {K : Value → Heap → Prop} {h : Heap} (hx : space_Free_c1 first1 bA1 bL1 bC1 cap1 cap2 K h) : C.space_Free_c1 first1 bA1 bL1 bC1 cap1 cap2 h K :=
  fn_to (cxOk _ _) Tryz.func50 (by kernel_rfl) space_Free_c1.chk (by rw [space_Free_c1.eq]; exact hx)

-- 51
def space_rows (g1 : List Value) (first1 : Int) (bA1 : Option Addr) (bL1 : Nat) (bC1 : Nat) (do1 : Value) (K : Value → Heap → Prop) (h1 : Heap) : Prop :=
  New g1 25 h1 fun h2 =>
  New [.int .i64 first1] 3 h2 fun h3 =>
  New (cellsL do1) 109 h3 fun h4 =>
  C.bits_Runs bA1 bL1 bC1 h4 fun r1 h5 =>
  ∃ (v1 : Value), r1 = v1 ∧
  ∀ (R1 : Loop),
  (∀ (n1 : Int) (n2 : Int), ∀ (h6 : Heap) (k1 : Value → Heap → Prop), LoopOn h6 (h5.size + 1) R1 .ready none →
  (
  LoopOn h6 (h5.size + 1) R1 .ready none ∧
  SetL h6 (h5.size + 1) R1 .busy none fun h7 =>
  ∃ (n3 : Int), cellOf h7 ⟨h2.size, 0, none⟩ = some (.int .i64 n3) ∧
  ∃ (n4 : Int), cellOf h7 (Addr.add ⟨h1.size, 0, none⟩ 3) = some (.int .i64 n4) ∧
  ∃ (n5 : Int), cellOf h7 ⟨h2.size, 0, none⟩ = some (.int .i64 n5) ∧
  ∃ (n6 : Int), cellOf h7 (Addr.add ⟨h1.size, 0, none⟩ 0) = some (.int .i64 n6) ∧
  bif (decide ((if n4 > (IntKind.wrap .i64 (n3 + n1)) then n4 else (IntKind.wrap .i64 (n3 + n1))) < (if n6 < (IntKind.wrap .i64 ((IntKind.wrap .i64 (n5 + n1)) + n2)) then n6 else (IntKind.wrap .i64 ((IntKind.wrap .i64 (n5 + n1)) + n2))))) then (
  ∃ (v2 : Value), cellOf h7 ⟨h3.size, 0, none⟩ = some (v2) ∧
  HCallsV Tryz.prog v2 [.int .i64 (if n4 > (IntKind.wrap .i64 (n3 + n1)) then n4 else (IntKind.wrap .i64 (n3 + n1))), .int .i64 (if n6 < (IntKind.wrap .i64 ((IntKind.wrap .i64 (n5 + n1)) + n2)) then n6 else (IntKind.wrap .i64 ((IntKind.wrap .i64 (n5 + n1)) + n2)))] h7 fun r2 h8 =>
  ∃ (b1 : Bool), r2 = .bool b1 ∧
  bif (!b1) then (
  LoopOn h8 (h5.size + 1) R1 .busy none ∧
  k1 (.bool false) (setLoop h8 (h5.size + 1) R1 .done (some .ret))) else (
  LoopOn h8 (h5.size + 1) R1 .busy none ∧
  k1 (.bool true) (setLoop h8 (h5.size + 1) R1 .ready none))) else (
  LoopOn h7 (h5.size + 1) R1 .busy none ∧
  k1 (.bool true) (setLoop h7 (h5.size + 1) R1 .ready none))) →
  YCalls Tryz.prog (h5.size + 1) [.int .i64 n1, .int .i64 n2] h6 k1) →
  HCallsF Tryz.prog v1 [.func (.yield (h5.size + 1)) #[] #[]] (beginL h5 R1) fun _ h9 =>
  ∃ (st1 : LoopState) (pend1 : Option Code), LoopOn h9 (h5.size + 1) R1 st1 pend1 ∧ st1 ≠ .busy ∧
  pendX pend1 (
  SetL h9 (h5.size + 1) R1 .exhausted pend1 fun h10 =>
  EndD h5.size h10 fun h11 =>
  K (.tuple #[]) h11) (
  SetL h9 (h5.size + 1) R1 .exhausted pend1 fun h12 =>
  EndD h5.size h12 fun h13 =>
  K (.tuple #[]) h13) (fun _ => False)
def space_rows.lo : Nat → List Nat × List (Nat × Ty) := fun n => match n with | 1000002 => ([], [(14, .int .i64), (15, .int .i64)]) | _ => ([], [])
def space_rows.od : Nat → Od := fun n => match n with | 4 => (.op 0 [] (.op 1 [] (.op 2 [] (.op 3 [] (.op 4 [] (.op 5 [] (.op 6 [] (.op 7 [] (.op 8 [] (.op 9 [] (.op 10 [] (.op 11 [] (.op 12 [] (.op 13 [] (.op 14 [] (.op 15 [] .nil)))))))))))))))) | _ => .nil
theorem space_rows.eq (g1 : List Value) (first1 : Int) (bA1 : Option Addr) (bL1 : Nat) (bC1 : Nat) (do1 : Value) (K : Value → Heap → Prop) (h : Heap) : fnX (cx space_rows.lo space_rows.od) Tryz.f51 (Tryz.f51.body.getD .skip) [.agg ⟨g1⟩, .int .i64 first1, .slice bA1 bL1 bC1, do1] K h = space_rows g1 first1 bA1 bL1 bC1 do1 K h := by kernel_rfl
theorem space_rows.chk : fnOk (cx space_rows.lo space_rows.od) Tryz.f51 (Tryz.f51.body.getD .skip) 4 = true := by kernel_rfl
theorem space_rows.ok {g1 : List Value} {first1 : Int} {bA1 : Option Addr} {bL1 : Nat} {bC1 : Nat} {do1 : Value} {K : Value → Heap → Prop} {h : Heap} (hx : space_rows g1 first1 bA1 bL1 bC1 do1 K h) : C.space_rows g1 first1 bA1 bL1 bC1 do1 h K :=
  fn_to (cxOk _ _) Tryz.func51 (by kernel_rfl) space_rows.chk (by rw [space_rows.eq]; exact hx)

-- 52
def space_Free_c1_c1 (from1 : Int) (to1 : Int) (cap1 : Option Addr) (K : Value → Heap → Prop) (h1 : Heap) : Prop :=
  onSome cap1 fun p1 =>
  ∃ (n1 : Int), cellOf h1 p1 = some (.int .i64 n1) ∧
  onSome cap1 fun p2 =>
  Put p2 (.int .i64 (IntKind.wrap .i64 (n1 + (IntKind.wrap .i64 (to1 - from1))))) h1 fun h2 =>
  K (.bool true) h2
def space_Free_c1_c1.lo : Nat → List Nat × List (Nat × Ty) := fun n => match n with | _ => ([], [])
def space_Free_c1_c1.od : Nat → Od := fun n => match n with | _ => .nil
theorem space_Free_c1_c1.eq (from1 : Int) (to1 : Int) (cap1 : Option Addr) (K : Value → Heap → Prop) (h : Heap) : fnX (cx space_Free_c1_c1.lo space_Free_c1_c1.od) Tryz.f52 (Tryz.f52.body.getD .skip) [.int .i64 from1, .int .i64 to1, .pointer cap1] K h = space_Free_c1_c1 from1 to1 cap1 K h := by kernel_rfl
theorem space_Free_c1_c1.chk : fnOk (cx space_Free_c1_c1.lo space_Free_c1_c1.od) Tryz.f52 (Tryz.f52.body.getD .skip) 3 = true := by kernel_rfl
theorem space_Free_c1_c1.ok {from1 : Int} {to1 : Int} {cap1 : Option Addr} {K : Value → Heap → Prop} {h : Heap} (hx : space_Free_c1_c1 from1 to1 cap1 K h) : C.space_Free_c1_c1 from1 to1 cap1 h K :=
  fn_to (cxOk _ _) Tryz.func52 (by kernel_rfl) space_Free_c1_c1.chk (by rw [space_Free_c1_c1.eq]; exact hx)

-- 56
def txn_Txn_Write.k1 (bA1 : Option Addr) (bL1 : Nat) (bC1 : Nat) (h1 : Heap) (h2 : Heap) (was1 : Option Addr) (ok1 : Option Addr) (h8 : Heap) (K : Value → Heap → Prop) : Prop :=
  ∃ (q2 : Option Addr), cellOf h8 ⟨h1.size, 0, none⟩ = some (.pointer q2) ∧
  onSome q2 fun p2 =>
  ∃ (b1 : Bool), cellOf h8 (Addr.add p2 3) = some (.bool b1) ∧
  bif b1 then (
  K (.int .i64 61) h8) else (
  ∃ (n2 : Int), cellOf h8 ⟨h2.size, 0, none⟩ = some (.int .i64 n2) ∧
  bif (decide (n2 < 98)) then (
  K (.int .i64 31) h8) else (
  ∃ (n3 : Int), cellOf h8 ⟨h2.size, 0, none⟩ = some (.int .i64 n3) ∧
  ∃ (q3 : Option Addr), cellOf h8 ⟨h1.size, 0, none⟩ = some (.pointer q3) ∧
  onSome q3 fun p3 =>
  ∃ (q4 : Option Addr), cellOf h8 (Addr.add p3 0) = some (.pointer q4) ∧
  C.adisk_Disk_Blocks q4 h8 fun r1 h9 =>
  ∃ (n4 : Int), r1 = .int .i64 n4 ∧
  (cellOf h9 ⟨h2.size, 0, none⟩ = some (.int .i64 n3)) ∧
  bif (decide (n3 ≥ n4)) then (
  K (.int .i64 31) h9) else (
  bif ((bL1 : Int) != 512) then (
  K (.int .i64 32) h9) else (
  onSome ok1 fun p4 =>
  ∃ (b2 : Bool), cellOf h9 p4 = some (.bool b2) ∧
  bif (!b2) then (
  ∃ (q5 : Option Addr), cellOf h9 ⟨h1.size, 0, none⟩ = some (.pointer q5) ∧
  onSome q5 fun p5 =>
  ∃ (m2 : Option Nat), cellOf h9 (Addr.add p5 1) = some (.map m2) ∧
  MapIn (.int .i64) m2 h9 fun mm2 =>
  bif (decide ((List.length mm2 : Int) ≥ 96)) then (
  K (.int .i64 60) h9) else (
  ∃ (q6 : Option Addr), cellOf h9 ⟨h1.size, 0, none⟩ = some (.pointer q6) ∧
  ∃ (q7 : Option Addr), cellOf h9 ⟨h1.size, 0, none⟩ = some (.pointer q7) ∧
  onSome q7 fun p6 =>
  ∃ (sA2 : Option Addr) (sL2 : Nat) (sC2 : Nat), cellOf h9 (Addr.add p6 2) = some (.slice sA2 sL2 sC2) ∧
  New [.func (.func 111) #[] ⟨[.pointer ok1, .pointer was1, .pointer (some ⟨h1.size, 0, none⟩), .pointer (some ⟨h2.size, 0, none⟩)]⟩] 1 h9 fun h10 =>
  (cellOf h10 ⟨h1.size, 0, none⟩ = some (.pointer q6)) ∧
  (cellOf h10 ⟨h1.size, 0, none⟩ = some (.pointer q7)) ∧
  (cellOf h10 (Addr.add p6 2) = some (.slice sA2 sL2 sC2)) ∧
  ∃ new1 : List Value, List.length new1 = 1 * 1 ∧ SlCells h10 (some ⟨h9.size, 0, none⟩) new1 ∧ (∀ v ∈ new1, v.oneCell' = true) ∧
  AppendP ti1 1 sA2 sL2 sC2 1 new1 h10 fun sA3 sL3 sC3 h11 =>
  (cellOf h11 ⟨h1.size, 0, none⟩ = some (.pointer q6)) ∧
  onSome q6 fun p7 =>
  Put (Addr.add p7 2) (.slice sA3 sL3 sC3) h11 fun h12 =>
  ∃ (q8 : Option Addr), cellOf h12 ⟨h1.size, 0, none⟩ = some (.pointer q8) ∧
  onSome q8 fun p8 =>
  ∃ (m3 : Option Nat), cellOf h12 (Addr.add p8 1) = some (.map m3) ∧
  ∃ (n5 : Int), cellOf h12 ⟨h2.size, 0, none⟩ = some (.int .i64 n5) ∧
  C.slices_Clone_byte_byte bA1 bL1 bC1 h12 fun r2 h13 =>
  ∃ (sA4 : Option Addr) (sL4 : Nat) (sC4 : Nat), r2 = .slice sA4 sL4 sC4 ∧
  (cellOf h13 ⟨h1.size, 0, none⟩ = some (.pointer q8)) ∧
  (cellOf h13 (Addr.add p8 1) = some (.map m3)) ∧
  (cellOf h13 ⟨h2.size, 0, none⟩ = some (.int .i64 n5)) ∧
  onSome m3 fun r3 =>
  MapPut (.int .i64) r3 (.i n5) (.slice sA4 sL4 sC4) h13 fun h14 =>
  K (.int .i64 0) h14)) else (
  ∃ (q9 : Option Addr), cellOf h9 ⟨h1.size, 0, none⟩ = some (.pointer q9) ∧
  ∃ (q10 : Option Addr), cellOf h9 ⟨h1.size, 0, none⟩ = some (.pointer q10) ∧
  onSome q10 fun p9 =>
  ∃ (sA5 : Option Addr) (sL5 : Nat) (sC5 : Nat), cellOf h9 (Addr.add p9 2) = some (.slice sA5 sL5 sC5) ∧
  New [.func (.func 111) #[] ⟨[.pointer ok1, .pointer was1, .pointer (some ⟨h1.size, 0, none⟩), .pointer (some ⟨h2.size, 0, none⟩)]⟩] 1 h9 fun h15 =>
  (cellOf h15 ⟨h1.size, 0, none⟩ = some (.pointer q9)) ∧
  (cellOf h15 ⟨h1.size, 0, none⟩ = some (.pointer q10)) ∧
  (cellOf h15 (Addr.add p9 2) = some (.slice sA5 sL5 sC5)) ∧
  ∃ new2 : List Value, List.length new2 = 1 * 1 ∧ SlCells h15 (some ⟨h9.size, 0, none⟩) new2 ∧ (∀ v ∈ new2, v.oneCell' = true) ∧
  AppendP ti1 1 sA5 sL5 sC5 1 new2 h15 fun sA6 sL6 sC6 h16 =>
  (cellOf h16 ⟨h1.size, 0, none⟩ = some (.pointer q9)) ∧
  onSome q9 fun p10 =>
  Put (Addr.add p10 2) (.slice sA6 sL6 sC6) h16 fun h17 =>
  ∃ (q11 : Option Addr), cellOf h17 ⟨h1.size, 0, none⟩ = some (.pointer q11) ∧
  onSome q11 fun p11 =>
  ∃ (m4 : Option Nat), cellOf h17 (Addr.add p11 1) = some (.map m4) ∧
  ∃ (n6 : Int), cellOf h17 ⟨h2.size, 0, none⟩ = some (.int .i64 n6) ∧
  C.slices_Clone_byte_byte bA1 bL1 bC1 h17 fun r4 h18 =>
  ∃ (sA7 : Option Addr) (sL7 : Nat) (sC7 : Nat), r4 = .slice sA7 sL7 sC7 ∧
  (cellOf h18 ⟨h1.size, 0, none⟩ = some (.pointer q11)) ∧
  (cellOf h18 (Addr.add p11 1) = some (.map m4)) ∧
  (cellOf h18 ⟨h2.size, 0, none⟩ = some (.int .i64 n6)) ∧
  onSome m4 fun r5 =>
  MapPut (.int .i64) r5 (.i n6) (.slice sA7 sL7 sC7) h18 fun h19 =>
  K (.int .i64 0) h19)))))
def txn_Txn_Write (t1 : Option Addr) (i1 : Int) (bA1 : Option Addr) (bL1 : Nat) (bC1 : Nat) (K : Value → Heap → Prop) (h1 : Heap) : Prop :=
  New [.pointer t1] 23 h1 fun h2 =>
  New [.int .i64 i1] 3 h2 fun h3 =>
  ∃ (q1 : Option Addr), cellOf h3 ⟨h1.size, 0, none⟩ = some (.pointer q1) ∧
  onSome q1 fun p1 =>
  ∃ (m1 : Option Nat), cellOf h3 (Addr.add p1 1) = some (.map m1) ∧
  ∃ (n1 : Int), cellOf h3 ⟨h2.size, 0, none⟩ = some (.int .i64 n1) ∧
  (
  MapIn (.int .i64) m1 h3 fun mm1 =>
  ∃ (sA1 : Option Addr) (sL1 : Nat) (sC1 : Nat), Option.getD (mget mm1 (.i n1)) (zeroV ti33) = .slice sA1 sL1 sC1 ∧
  (
  New z33 33 h3 fun h4 =>
  (cellOf h4 ⟨h1.size, 0, none⟩ = some (.pointer q1)) ∧
  (cellOf h4 (Addr.add p1 1) = some (.map m1)) ∧
  (cellOf h4 ⟨h2.size, 0, none⟩ = some (.int .i64 n1)) ∧
  New z4 4 h4 fun h5 =>
  (cellOf h5 ⟨h1.size, 0, none⟩ = some (.pointer q1)) ∧
  (cellOf h5 (Addr.add p1 1) = some (.map m1)) ∧
  (cellOf h5 ⟨h2.size, 0, none⟩ = some (.int .i64 n1)) ∧
  Put ⟨h3.size, 0, none⟩ (.slice sA1 sL1 sC1) h5 fun h6 =>
  Put ⟨h4.size, 0, none⟩ (.bool (Option.isSome (mget mm1 (.i n1)))) h6 fun h7 =>
  txn_Txn_Write.k1 bA1 bL1 bC1 h1 h2 (some ⟨h3.size, 0, none⟩) (some ⟨h4.size, 0, none⟩) h7 K) ∧
  New z4 4 h3 fun h20 =>
  (cellOf h20 ⟨h1.size, 0, none⟩ = some (.pointer q1)) ∧
  (cellOf h20 (Addr.add p1 1) = some (.map m1)) ∧
  (cellOf h20 ⟨h2.size, 0, none⟩ = some (.int .i64 n1)) ∧
  New z33 33 h20 fun h21 =>
  (cellOf h21 ⟨h1.size, 0, none⟩ = some (.pointer q1)) ∧
  (cellOf h21 (Addr.add p1 1) = some (.map m1)) ∧
  (cellOf h21 ⟨h2.size, 0, none⟩ = some (.int .i64 n1)) ∧
  Put ⟨h20.size, 0, none⟩ (.slice sA1 sL1 sC1) h21 fun h22 =>
  Put ⟨h3.size, 0, none⟩ (.bool (Option.isSome (mget mm1 (.i n1)))) h22 fun h23 =>
  txn_Txn_Write.k1 bA1 bL1 bC1 h1 h2 (some ⟨h20.size, 0, none⟩) (some ⟨h3.size, 0, none⟩) h23 K) ∧
  (
  New z33 33 h3 fun h24 =>
  (cellOf h24 ⟨h1.size, 0, none⟩ = some (.pointer q1)) ∧
  (cellOf h24 (Addr.add p1 1) = some (.map m1)) ∧
  (cellOf h24 ⟨h2.size, 0, none⟩ = some (.int .i64 n1)) ∧
  (
  MapIn (.int .i64) m1 h24 fun mm3 =>
  ∃ (sA8 : Option Addr) (sL8 : Nat) (sC8 : Nat), Option.getD (mget mm3 (.i n1)) (zeroV ti33) = .slice sA8 sL8 sC8 ∧
  New z4 4 h24 fun h25 =>
  (cellOf h25 ⟨h1.size, 0, none⟩ = some (.pointer q1)) ∧
  (cellOf h25 (Addr.add p1 1) = some (.map m1)) ∧
  (cellOf h25 ⟨h2.size, 0, none⟩ = some (.int .i64 n1)) ∧
  Put ⟨h3.size, 0, none⟩ (.slice sA8 sL8 sC8) h25 fun h26 =>
  Put ⟨h24.size, 0, none⟩ (.bool (Option.isSome (mget mm3 (.i n1)))) h26 fun h27 =>
  txn_Txn_Write.k1 bA1 bL1 bC1 h1 h2 (some ⟨h3.size, 0, none⟩) (some ⟨h24.size, 0, none⟩) h27 K) ∧
  New z4 4 h24 fun h28 =>
  (cellOf h28 ⟨h1.size, 0, none⟩ = some (.pointer q1)) ∧
  (cellOf h28 (Addr.add p1 1) = some (.map m1)) ∧
  (cellOf h28 ⟨h2.size, 0, none⟩ = some (.int .i64 n1)) ∧
  MapIn (.int .i64) m1 h28 fun mm4 =>
  ∃ (sA9 : Option Addr) (sL9 : Nat) (sC9 : Nat), Option.getD (mget mm4 (.i n1)) (zeroV ti33) = .slice sA9 sL9 sC9 ∧
  Put ⟨h3.size, 0, none⟩ (.slice sA9 sL9 sC9) h28 fun h29 =>
  Put ⟨h24.size, 0, none⟩ (.bool (Option.isSome (mget mm4 (.i n1)))) h29 fun h30 =>
  txn_Txn_Write.k1 bA1 bL1 bC1 h1 h2 (some ⟨h3.size, 0, none⟩) (some ⟨h24.size, 0, none⟩) h30 K) ∧
  New z4 4 h3 fun h31 =>
  (cellOf h31 ⟨h1.size, 0, none⟩ = some (.pointer q1)) ∧
  (cellOf h31 (Addr.add p1 1) = some (.map m1)) ∧
  (cellOf h31 ⟨h2.size, 0, none⟩ = some (.int .i64 n1)) ∧
  (
  MapIn (.int .i64) m1 h31 fun mm5 =>
  ∃ (sA10 : Option Addr) (sL10 : Nat) (sC10 : Nat), Option.getD (mget mm5 (.i n1)) (zeroV ti33) = .slice sA10 sL10 sC10 ∧
  New z33 33 h31 fun h32 =>
  (cellOf h32 ⟨h1.size, 0, none⟩ = some (.pointer q1)) ∧
  (cellOf h32 (Addr.add p1 1) = some (.map m1)) ∧
  (cellOf h32 ⟨h2.size, 0, none⟩ = some (.int .i64 n1)) ∧
  Put ⟨h31.size, 0, none⟩ (.slice sA10 sL10 sC10) h32 fun h33 =>
  Put ⟨h3.size, 0, none⟩ (.bool (Option.isSome (mget mm5 (.i n1)))) h33 fun h34 =>
  txn_Txn_Write.k1 bA1 bL1 bC1 h1 h2 (some ⟨h31.size, 0, none⟩) (some ⟨h3.size, 0, none⟩) h34 K) ∧
  New z33 33 h31 fun h35 =>
  (cellOf h35 ⟨h1.size, 0, none⟩ = some (.pointer q1)) ∧
  (cellOf h35 (Addr.add p1 1) = some (.map m1)) ∧
  (cellOf h35 ⟨h2.size, 0, none⟩ = some (.int .i64 n1)) ∧
  MapIn (.int .i64) m1 h35 fun mm6 =>
  ∃ (sA11 : Option Addr) (sL11 : Nat) (sC11 : Nat), Option.getD (mget mm6 (.i n1)) (zeroV ti33) = .slice sA11 sL11 sC11 ∧
  Put ⟨h31.size, 0, none⟩ (.slice sA11 sL11 sC11) h35 fun h36 =>
  Put ⟨h3.size, 0, none⟩ (.bool (Option.isSome (mget mm6 (.i n1)))) h36 fun h37 =>
  txn_Txn_Write.k1 bA1 bL1 bC1 h1 h2 (some ⟨h31.size, 0, none⟩) (some ⟨h3.size, 0, none⟩) h37 K
def txn_Txn_Write.lo : Nat → List Nat × List (Nat × Ty) := fun n => match n with | _ => ([], [])
set_option maxRecDepth 100000 in
def txn_Txn_Write.od : Nat → Od := fun n => match n with | 1 => (.op 0 [] (.op 1 [] (.op 2 [] (.op 3 [] (.op 4 [] (.alt 5 [] (.op 6 [] (.op 7 [] (.op 8 [] (.alt 9 [0, 3, 4] (.op 10 [0, 3, 4] (.op 11 [] (.op 12 [] .nil))) (.op 10 [0, 3, 4] (.op 9 [0, 3, 4] (.op 11 [] (.op 12 [] .nil)))))))) (.alt 9 [0, 3, 4] (.alt 5 [] (.op 6 [] (.op 7 [] (.op 8 [] (.op 10 [0, 3, 4] (.op 11 [] (.op 12 [] .nil)))))) (.op 10 [0, 3, 4] (.op 5 [] (.op 6 [] (.op 7 [] (.op 8 [] (.op 11 [] (.op 12 [] .nil)))))))) (.op 10 [0, 3, 4] (.alt 5 [] (.op 6 [] (.op 7 [] (.op 8 [] (.op 9 [0, 3, 4] (.op 11 [] (.op 12 [] .nil)))))) (.op 9 [0, 3, 4] (.op 5 [] (.op 6 [] (.op 7 [] (.op 8 [] (.op 11 [] (.op 12 [] .nil)))))))))))))))) | 4 => (.op 0 [] (.op 1 [] (.op 2 [] (.op 3 [] (.op 4 [] (.op 5 [] (.op 6 [] (.op 7 [] (.op 8 [3] (.op 9 [] (.op 10 [] (.op 11 [] .nil)))))))))))) | 10 => (.op 0 [] (.op 1 [] (.op 2 [] (.op 3 [] (.op 4 [] (.op 5 [] (.op 6 [0, 1, 4] (.op 7 [0] (.op 8 [] (.op 9 [] (.op 10 [] .nil))))))))))) | 11 => (.op 0 [] (.op 1 [] (.op 2 [] (.op 3 [] (.op 4 [] (.op 5 [] (.op 6 [0, 3, 4] (.op 7 [] .nil)))))))) | _ => .nil
set_option maxRecDepth 100000 in
theorem txn_Txn_Write.eq (t1 : Option Addr) (i1 : Int) (bA1 : Option Addr) (bL1 : Nat) (bC1 : Nat) (K : Value → Heap → Prop) (h : Heap) : fnX (cx txn_Txn_Write.lo txn_Txn_Write.od) Tryz.f56 (Tryz.f56.body.getD .skip) [.pointer t1, .int .i64 i1, .slice bA1 bL1 bC1] K h = txn_Txn_Write t1 i1 bA1 bL1 bC1 K h := by kernel_rfl
theorem txn_Txn_Write.chk : fnOk (cx txn_Txn_Write.lo txn_Txn_Write.od) Tryz.f56 (Tryz.f56.body.getD .skip) 3 = true := by kernel_rfl
set_option maxRecDepth 100000 in
theorem txn_Txn_Write.ok {t1 : Option Addr} {i1 : Int} {bA1 : Option Addr} {bL1 : Nat} {bC1 : Nat} {K : Value → Heap → Prop} {h : Heap} (hx : txn_Txn_Write t1 i1 bA1 bL1 bC1 K h) : C.txn_Txn_Write t1 i1 bA1 bL1 bC1 h K :=
  fn_to (cxOk _ _) Tryz.func56 (by kernel_rfl) txn_Txn_Write.chk (by rw [txn_Txn_Write.eq]; exact hx)

-- 62
def bolelaw10_Setup_image (s1 : List Value) (K : Value → Heap → Prop) (h1 : Heap) : Prop :=
  New s1 41 h1 fun h2 =>
  New z25 25 h2 fun h3 =>
  ∃ cs1 : List Value, List.length cs1 = 3 ∧ Cells h3 ⟨h1.size, 0, none⟩ cs1 ∧
  C.bolelaw10_Setup_blocks cs1 h3 fun r1 h4 =>
  ∃ (n1 : Int), r1 = .int .i64 n1 ∧
  C.boleref09_Geo n1 h4 fun r2 h5 =>
  ∃ (cs2 : List Value), r2 = .agg ⟨cs2⟩ ∧
  NewRow z25 25 cs2 5 h5 fun h7 =>
  (0 ≤ (IntKind.wrap .i64 (512 * n1)) ∧ (IntKind.wrap .i64 (512 * n1)) ≤ (IntKind.wrap .i64 (512 * n1)) ∧ (1 : Int) * (IntKind.wrap .i64 (512 * n1)) ≤ 281474976710656 ∧ (IntKind.wrap .i64 (512 * n1)) ≤ 281474976710656) ∧
  New (repCells z5 (Int.toNat (IntKind.wrap .i64 (512 * n1)))) 5 h7 fun h8 =>
  ∃ (n2 : Int), cellOf h8 (Addr.add ⟨h5.size, 0, none⟩ 1) = some (.int .i64 n2) ∧
  ∃ (n3 : Int), cellOf h8 (Addr.add ⟨h5.size, 0, none⟩ 2) = some (.int .i64 n3) ∧
  (0 ≤ (IntKind.wrap .i64 (512 * n2)) ∧ (IntKind.wrap .i64 (512 * n2)) ≤ (IntKind.wrap .i64 (512 * n3)) ∧ (IntKind.wrap .i64 (512 * n3)) ≤ ((Int.toNat (IntKind.wrap .i64 (512 * n1))) : Int)) ∧
  ∃ (I1 : Int → Heap → Prop) (M1 : Int → Heap → Nat), I1 0 h8 ∧
  ∀ (i1 : Int), ∀ h9 : Heap, I1 i1 h9 →
  bif (decide (i1 < (IntKind.wrap .i64 (8 * ((((Int.toNat (IntKind.wrap .i64 (512 * n3))) - (Int.toNat (IntKind.wrap .i64 (512 * n2)))) : Nat) : Int))))) then (
  ∃ (n4 : Int), cellOf h9 (Addr.add ⟨h5.size, 0, none⟩ 3) = some (.int .i64 n4) ∧
  bif (decide (i1 < n4)) then (
  (0 ≤ (IntKind.wrap .i64 (Int.tdiv i1 8)) ∧ (IntKind.wrap .i64 (Int.tdiv i1 8)) < ((((Int.toNat (IntKind.wrap .i64 (512 * n3))) - (Int.toNat (IntKind.wrap .i64 (512 * n2)))) : Nat) : Int)) ∧
  onSome (if (Int.toNat (IntKind.wrap .i64 (512 * n1))) = (Int.toNat (IntKind.wrap .i64 (512 * n2))) then (some ⟨h7.size, 0, none⟩) else Option.map (Addr.add · (Int.toNat (IntKind.wrap .i64 (512 * n2)))) (some ⟨h7.size, 0, none⟩)) fun p1 =>
  ∃ (n5 : Int), cellOf h9 (Addr.add p1 (Int.toNat (IntKind.wrap .i64 (Int.tdiv i1 8)))) = some (.int .u8 n5) ∧
  if (Int.tmod i1 8) < 0 then False else
  (0 ≤ (IntKind.wrap .i64 (Int.tdiv i1 8)) ∧ (IntKind.wrap .i64 (Int.tdiv i1 8)) < ((((Int.toNat (IntKind.wrap .i64 (512 * n3))) - (Int.toNat (IntKind.wrap .i64 (512 * n2)))) : Nat) : Int)) ∧
  onSome (if (Int.toNat (IntKind.wrap .i64 (512 * n1))) = (Int.toNat (IntKind.wrap .i64 (512 * n2))) then (some ⟨h7.size, 0, none⟩) else Option.map (Addr.add · (Int.toNat (IntKind.wrap .i64 (512 * n2)))) (some ⟨h7.size, 0, none⟩)) fun p2 =>
  Put (Addr.add p2 (Int.toNat (IntKind.wrap .i64 (Int.tdiv i1 8)))) (.int .u8 (bitsI .or .u8 n5 (IntKind.wrap .u8 ((1 * 2 ^ min (Int.toNat (Int.tmod i1 8)) 8))))) h9 fun h10 =>
  I1 (IntKind.wrap .i64 (i1 + 1)) h10 ∧ M1 (IntKind.wrap .i64 (i1 + 1)) h10 < M1 i1 h9) else (
  bif (decide (i1 ≥ n1)) then (
  (0 ≤ (IntKind.wrap .i64 (Int.tdiv i1 8)) ∧ (IntKind.wrap .i64 (Int.tdiv i1 8)) < ((((Int.toNat (IntKind.wrap .i64 (512 * n3))) - (Int.toNat (IntKind.wrap .i64 (512 * n2)))) : Nat) : Int)) ∧
  onSome (if (Int.toNat (IntKind.wrap .i64 (512 * n1))) = (Int.toNat (IntKind.wrap .i64 (512 * n2))) then (some ⟨h7.size, 0, none⟩) else Option.map (Addr.add · (Int.toNat (IntKind.wrap .i64 (512 * n2)))) (some ⟨h7.size, 0, none⟩)) fun p3 =>
  ∃ (n6 : Int), cellOf h9 (Addr.add p3 (Int.toNat (IntKind.wrap .i64 (Int.tdiv i1 8)))) = some (.int .u8 n6) ∧
  if (Int.tmod i1 8) < 0 then False else
  (0 ≤ (IntKind.wrap .i64 (Int.tdiv i1 8)) ∧ (IntKind.wrap .i64 (Int.tdiv i1 8)) < ((((Int.toNat (IntKind.wrap .i64 (512 * n3))) - (Int.toNat (IntKind.wrap .i64 (512 * n2)))) : Nat) : Int)) ∧
  onSome (if (Int.toNat (IntKind.wrap .i64 (512 * n1))) = (Int.toNat (IntKind.wrap .i64 (512 * n2))) then (some ⟨h7.size, 0, none⟩) else Option.map (Addr.add · (Int.toNat (IntKind.wrap .i64 (512 * n2)))) (some ⟨h7.size, 0, none⟩)) fun p4 =>
  Put (Addr.add p4 (Int.toNat (IntKind.wrap .i64 (Int.tdiv i1 8)))) (.int .u8 (bitsI .or .u8 n6 (IntKind.wrap .u8 ((1 * 2 ^ min (Int.toNat (Int.tmod i1 8)) 8))))) h9 fun h11 =>
  I1 (IntKind.wrap .i64 (i1 + 1)) h11 ∧ M1 (IntKind.wrap .i64 (i1 + 1)) h11 < M1 i1 h9) else (
  I1 (IntKind.wrap .i64 (i1 + 1)) h9 ∧ M1 (IntKind.wrap .i64 (i1 + 1)) h9 < M1 i1 h9))) else (
  ∃ (sA1 : Option Addr) (sL1 : Nat) (sC1 : Nat), cellOf h9 (Addr.add ⟨h1.size, 0, none⟩ 1) = some (.slice sA1 sL1 sC1) ∧
  ∃ (I2 : Int → Heap → Prop) (M2 : Int → Heap → Nat), I2 0 h9 ∧
  ∀ (n7 : Int), ∀ h12 : Heap, I2 n7 h12 →
  bif (decide (n7 < (sL1 : Int))) then (
  (0 ≤ n7 ∧ n7 < (sL1 : Int)) ∧
  onSome sA1 fun p5 =>
  ∃ (n8 : Int), cellOf h12 (Addr.add p5 (Int.toNat n7)) = some (.int .i64 n8) ∧
  ∃ (n9 : Int), cellOf h12 (Addr.add ⟨h5.size, 0, none⟩ 3) = some (.int .i64 n9) ∧
  ∃ (n10 : Int), cellOf h12 (Addr.add ⟨h5.size, 0, none⟩ 3) = some (.int .i64 n10) ∧
  if (IntKind.wrap .u64 ((IntKind.wrap .i64 (n1 - n10)))) = 0 then False else
  (0 ≤ (IntKind.wrap .i64 (Int.tdiv (IntKind.wrap .i64 (n9 + (IntKind.wrap .i64 ((Int.tmod (IntKind.wrap .u64 (n8)) (IntKind.wrap .u64 ((IntKind.wrap .i64 (n1 - n10))))))))) 8)) ∧ (IntKind.wrap .i64 (Int.tdiv (IntKind.wrap .i64 (n9 + (IntKind.wrap .i64 ((Int.tmod (IntKind.wrap .u64 (n8)) (IntKind.wrap .u64 ((IntKind.wrap .i64 (n1 - n10))))))))) 8)) < ((((Int.toNat (IntKind.wrap .i64 (512 * n3))) - (Int.toNat (IntKind.wrap .i64 (512 * n2)))) : Nat) : Int)) ∧
  onSome (if (Int.toNat (IntKind.wrap .i64 (512 * n1))) = (Int.toNat (IntKind.wrap .i64 (512 * n2))) then (some ⟨h7.size, 0, none⟩) else Option.map (Addr.add · (Int.toNat (IntKind.wrap .i64 (512 * n2)))) (some ⟨h7.size, 0, none⟩)) fun p6 =>
  ∃ (n11 : Int), cellOf h12 (Addr.add p6 (Int.toNat (IntKind.wrap .i64 (Int.tdiv (IntKind.wrap .i64 (n9 + (IntKind.wrap .i64 ((Int.tmod (IntKind.wrap .u64 (n8)) (IntKind.wrap .u64 ((IntKind.wrap .i64 (n1 - n10))))))))) 8)))) = some (.int .u8 n11) ∧
  if (Int.tmod (IntKind.wrap .i64 (n9 + (IntKind.wrap .i64 ((Int.tmod (IntKind.wrap .u64 (n8)) (IntKind.wrap .u64 ((IntKind.wrap .i64 (n1 - n10))))))))) 8) < 0 then False else
  (0 ≤ (IntKind.wrap .i64 (Int.tdiv (IntKind.wrap .i64 (n9 + (IntKind.wrap .i64 ((Int.tmod (IntKind.wrap .u64 (n8)) (IntKind.wrap .u64 ((IntKind.wrap .i64 (n1 - n10))))))))) 8)) ∧ (IntKind.wrap .i64 (Int.tdiv (IntKind.wrap .i64 (n9 + (IntKind.wrap .i64 ((Int.tmod (IntKind.wrap .u64 (n8)) (IntKind.wrap .u64 ((IntKind.wrap .i64 (n1 - n10))))))))) 8)) < ((((Int.toNat (IntKind.wrap .i64 (512 * n3))) - (Int.toNat (IntKind.wrap .i64 (512 * n2)))) : Nat) : Int)) ∧
  onSome (if (Int.toNat (IntKind.wrap .i64 (512 * n1))) = (Int.toNat (IntKind.wrap .i64 (512 * n2))) then (some ⟨h7.size, 0, none⟩) else Option.map (Addr.add · (Int.toNat (IntKind.wrap .i64 (512 * n2)))) (some ⟨h7.size, 0, none⟩)) fun p7 =>
  Put (Addr.add p7 (Int.toNat (IntKind.wrap .i64 (Int.tdiv (IntKind.wrap .i64 (n9 + (IntKind.wrap .i64 ((Int.tmod (IntKind.wrap .u64 (n8)) (IntKind.wrap .u64 ((IntKind.wrap .i64 (n1 - n10))))))))) 8)))) (.int .u8 (bitsI .or .u8 n11 (IntKind.wrap .u8 ((1 * 2 ^ min (Int.toNat (Int.tmod (IntKind.wrap .i64 (n9 + (IntKind.wrap .i64 ((Int.tmod (IntKind.wrap .u64 (n8)) (IntKind.wrap .u64 ((IntKind.wrap .i64 (n1 - n10))))))))) 8)) 8))))) h12 fun h13 =>
  I2 (IntKind.wrap .i64 (n7 + 1)) h13 ∧ M2 (IntKind.wrap .i64 (n7 + 1)) h13 < M2 n7 h12) else (
  ∃ (sA2 : Option Addr) (sL2 : Nat) (sC2 : Nat), cellOf h12 (Addr.add ⟨h1.size, 0, none⟩ 2) = some (.slice sA2 sL2 sC2) ∧
  ∃ (I3 : Int → Heap → Prop) (M3 : Int → Heap → Nat), I3 0 h12 ∧
  ∀ (n12 : Int), ∀ h14 : Heap, I3 n12 h14 →
  bif (decide (n12 < (sL2 : Int))) then (
  (0 ≤ n12 ∧ n12 < (sL2 : Int)) ∧
  onSome sA2 fun p8 =>
  ∃ cs3 : List Value, List.length cs3 = 2 ∧ Cells h14 (Addr.add p8 ((Int.toNat n12) * 2)) cs3 ∧
  NewRow z202 202 cs3 2 h14 fun h16 =>
  ∃ (n13 : Int), cellOf h16 (Addr.add ⟨h14.size, 0, none⟩ 0) = some (.int .i64 n13) ∧
  ∃ (n14 : Int), cellOf h16 (Addr.add ⟨h5.size, 0, none⟩ 3) = some (.int .i64 n14) ∧
  bif (decide (n13 ≥ n14)) then (
  ∃ (n15 : Int), cellOf h16 (Addr.add ⟨h14.size, 0, none⟩ 0) = some (.int .i64 n15) ∧
  bif (decide (n15 < n1)) then (
  ∃ (n16 : Int), cellOf h16 (Addr.add ⟨h14.size, 0, none⟩ 0) = some (.int .i64 n16) ∧
  ∃ (n17 : Int), cellOf h16 (Addr.add ⟨h14.size, 0, none⟩ 0) = some (.int .i64 n17) ∧
  (0 ≤ (IntKind.wrap .i64 (512 * n16)) ∧ (IntKind.wrap .i64 (512 * n16)) ≤ (IntKind.wrap .i64 ((IntKind.wrap .i64 (512 * n17)) + 512)) ∧ (IntKind.wrap .i64 ((IntKind.wrap .i64 (512 * n17)) + 512)) ≤ ((Int.toNat (IntKind.wrap .i64 (512 * n1))) : Int)) ∧
  ∃ (sA3 : Option Addr) (sL3 : Nat) (sC3 : Nat), cellOf h16 (Addr.add ⟨h14.size, 0, none⟩ 1) = some (.slice sA3 sL3 sC3) ∧
  CopyP ti5 (if (Int.toNat (IntKind.wrap .i64 (512 * n1))) = (Int.toNat (IntKind.wrap .i64 (512 * n16))) then (some ⟨h7.size, 0, none⟩) else Option.map (Addr.add · (Int.toNat (IntKind.wrap .i64 (512 * n16)))) (some ⟨h7.size, 0, none⟩)) ((Int.toNat (IntKind.wrap .i64 ((IntKind.wrap .i64 (512 * n17)) + 512))) - (Int.toNat (IntKind.wrap .i64 (512 * n16)))) (.slice sA3 sL3 sC3) h16 fun n18 h17 =>
  I3 (IntKind.wrap .i64 (n12 + 1)) h17 ∧ M3 (IntKind.wrap .i64 (n12 + 1)) h17 < M3 n12 h14) else (
  I3 (IntKind.wrap .i64 (n12 + 1)) h16 ∧ M3 (IntKind.wrap .i64 (n12 + 1)) h16 < M3 n12 h14)) else (
  I3 (IntKind.wrap .i64 (n12 + 1)) h16 ∧ M3 (IntKind.wrap .i64 (n12 + 1)) h16 < M3 n12 h14)) else (
  ∃ cs4 : List Value, List.length cs4 = 5 ∧ Cells h14 ⟨h5.size, 0, none⟩ cs4 ∧
  PutRow ⟨h2.size, 0, none⟩ cs4 5 h14 fun h18 =>
  ∃ res1 : List Value, List.length res1 = 5 ∧ Cells h18 ⟨h2.size, 0, none⟩ res1 ∧
  K (.tuple #[.slice (some ⟨h7.size, 0, none⟩) (Int.toNat (IntKind.wrap .i64 (512 * n1))) (Int.toNat (IntKind.wrap .i64 (512 * n1))), .agg ⟨res1⟩]) h18)))
def bolelaw10_Setup_image.lo : Nat → List Nat × List (Nat × Ty) := fun n => match n with | 6 => ([1, 3, 4, 5, 6, 7], [(8, .int .i64)]) | 11 => ([1, 3, 4, 5, 6, 7, 59, 60], [(61, .int .i64)]) | 17 => ([3, 4, 5, 6, 92, 93], [(94, .int .i64)]) | _ => ([], [])
def bolelaw10_Setup_image.od : Nat → Od := fun n => match n with | 9 => (.op 0 [] (.op 1 [] (.op 2 [] (.op 3 [] (.op 4 [] (.op 5 [] (.op 6 [] (.op 7 [] (.op 8 [] (.op 9 [] (.op 10 [] (.op 11 [] (.op 12 [] (.op 13 [] .nil)))))))))))))) | 13 => (.op 0 [] (.op 1 [] (.op 2 [] (.op 3 [] (.op 4 [] (.op 5 [] (.op 6 [] (.op 7 [] (.op 8 [] (.op 9 [] (.op 10 [] (.op 11 [] (.op 12 [] .nil))))))))))))) | 14 => (.op 0 [] (.op 1 [] (.op 2 [] (.op 3 [] (.op 4 [] (.op 5 [] (.op 6 [] (.op 7 [] (.op 8 [] (.op 9 [] (.op 10 [] (.op 11 [] (.op 12 [] (.op 13 [] .nil)))))))))))))) | 20 => (.op 0 [] (.op 1 [] (.op 2 [] (.op 3 [] (.op 4 [] (.op 5 [] (.op 6 [] (.op 7 [] (.op 8 [] (.op 9 [] (.op 10 [] (.op 11 [] .nil)))))))))))) | 22 => (.op 0 [] (.op 1 [] (.op 2 [] (.op 3 [] .nil)))) | _ => .nil
theorem bolelaw10_Setup_image.eq (s1 : List Value) (K : Value → Heap → Prop) (h : Heap) : fnX (cx bolelaw10_Setup_image.lo bolelaw10_Setup_image.od) Tryz.f62 (Tryz.f62.body.getD .skip) [.agg ⟨s1⟩] K h = bolelaw10_Setup_image s1 K h := by kernel_rfl
theorem bolelaw10_Setup_image.chk : fnOk (cx bolelaw10_Setup_image.lo bolelaw10_Setup_image.od) Tryz.f62 (Tryz.f62.body.getD .skip) 1 = true := by kernel_rfl
theorem bolelaw10_Setup_image.ok {s1 : List Value} {K : Value → Heap → Prop} {h : Heap} (hx : bolelaw10_Setup_image s1 K h) : C.bolelaw10_Setup_image s1 h K :=
  fn_to (cxOk _ _) Tryz.func62 (by kernel_rfl) bolelaw10_Setup_image.chk (by rw [bolelaw10_Setup_image.eq]; exact hx)

-- 63
def boleref03_Of (imageA1 : Option Addr) (imageL1 : Nat) (imageC1 : Nat) (K : Value → Heap → Prop) (h1 : Heap) : Prop :=
  bif ((imageL1 : Int) == 0) then (
  K (.tuple #[.pointer none, .int .i64 32]) h1) else (
  bif ((Int.tmod (imageL1 : Int) 512) != 0) then (
  K (.tuple #[.pointer none, .int .i64 32]) h1) else (
  bif (decide ((IntKind.wrap .i64 (Int.tdiv (imageL1 : Int) 512)) > 16384)) then (
  K (.tuple #[.pointer none, .int .i64 32]) h1) else (
  C.boleref03_copied imageA1 imageL1 imageC1 h1 fun r1 h2 =>
  ∃ (sA1 : Option Addr) (sL1 : Nat) (sC1 : Nat), r1 = .slice sA1 sL1 sC1 ∧
  New [.slice sA1 sL1 sC1, .slice none 0 0, .slice none 0 0, .int .i64 0, .bool false, .int .i64 0, .int .i64 0] 204 h2 fun h3 =>
  K (.tuple #[.pointer (some ⟨h2.size, 0, none⟩), .int .i64 0]) h3)))
def boleref03_Of.lo : Nat → List Nat × List (Nat × Ty) := fun n => match n with | _ => ([], [])
def boleref03_Of.od : Nat → Od := fun n => match n with | _ => .nil
set_option maxRecDepth 1000000 in
theorem boleref03_Of.eq (imageA1 : Option Addr) (imageL1 : Nat) (imageC1 : Nat) (K : Value → Heap → Prop) (h : Heap) : fnX (cx boleref03_Of.lo boleref03_Of.od) Tryz.f63 (Tryz.f63.body.getD .skip) [.slice imageA1 imageL1 imageC1] K h = boleref03_Of imageA1 imageL1 imageC1 K h := by kernel_rfl
theorem boleref03_Of.chk : fnOk (cx boleref03_Of.lo boleref03_Of.od) Tryz.f63 (Tryz.f63.body.getD .skip) 1 = true := by kernel_rfl
set_option maxRecDepth 1000000 in
theorem boleref03_Of.ok {imageA1 : Option Addr} {imageL1 : Nat} {imageC1 : Nat} {K : Value → Heap → Prop} {h : Heap} (hx : boleref03_Of imageA1 imageL1 imageC1 K h) : C.boleref03_Of imageA1 imageL1 imageC1 h K :=
  fn_to (cxOk _ _) Tryz.func63 (by kernel_rfl) boleref03_Of.chk (by rw [boleref03_Of.eq]; exact hx)

-- 64
def boleref06_Begin (d1 : Option Addr) (K : Value → Heap → Prop) (h1 : Heap) : Prop :=
  New [.pointer d1, .slice none 0 0, .bool false] 143 h1 fun h2 =>
  K (.pointer (some ⟨h1.size, 0, none⟩)) h2
def boleref06_Begin.lo : Nat → List Nat × List (Nat × Ty) := fun n => match n with | _ => ([], [])
def boleref06_Begin.od : Nat → Od := fun n => match n with | _ => .nil
theorem boleref06_Begin.eq (d1 : Option Addr) (K : Value → Heap → Prop) (h : Heap) : fnX (cx boleref06_Begin.lo boleref06_Begin.od) Tryz.f64 (Tryz.f64.body.getD .skip) [.pointer d1] K h = boleref06_Begin d1 K h := by kernel_rfl
theorem boleref06_Begin.chk : fnOk (cx boleref06_Begin.lo boleref06_Begin.od) Tryz.f64 (Tryz.f64.body.getD .skip) 1 = true := by kernel_rfl
theorem boleref06_Begin.ok {d1 : Option Addr} {K : Value → Heap → Prop} {h : Heap} (hx : boleref06_Begin d1 K h) : C.boleref06_Begin d1 h K :=
  fn_to (cxOk _ _) Tryz.func64 (by kernel_rfl) boleref06_Begin.chk (by rw [boleref06_Begin.eq]; exact hx)

-- 65
def bmap_file_walk.k1 (f1 : Option Addr) (at1 : Int) (n1 : Int) (h3 : Heap) (I1 : Int → Int → Heap → Prop) (M1 : Int → Int → Heap → Nat) (num1 : Int) (e1 : Int) (h8 : Heap) (K : Value → Heap → Prop) : Prop :=
  bif (e1 != 0) then (
  K (.tuple #[.int .i64 0, .int .i64 e1]) h8) else (
  bif (num1 == 0) then (
  K (.tuple #[.int .i64 0, .int .i64 0]) h8) else (
  C.bmap_file_look f1 num1 h8 fun r4 h9 =>
  ∃ (n6 : Int), r4 = .int .i64 n6 ∧
  bif (n6 != 0) then (
  K (.tuple #[.int .i64 0, .int .i64 n6]) h9) else (
  I1 num1 (IntKind.wrap .i64 (n1 + 1)) h9 ∧ M1 num1 (IntKind.wrap .i64 (n1 + 1)) h9 < M1 at1 n1 h3)))
def bmap_file_walk (f1 : Option Addr) (k1 : Int) (hole1 : Value) (K : Value → Heap → Prop) (h1 : Heap) : Prop :=
  C.bmap_way k1 h1 fun r1 h2 =>
  ∃ (sA1 : Option Addr) (sL1 : Nat) (sC1 : Nat), r1 = .slice sA1 sL1 sC1 ∧
  ∃ (I1 : Int → Int → Heap → Prop) (M1 : Int → Int → Heap → Nat), I1 0 0 h2 ∧
  ∀ (at1 : Int) (n1 : Int), ∀ h3 : Heap, I1 at1 n1 h3 →
  bif (decide (n1 < (sL1 : Int))) then (
  (0 ≤ n1 ∧ n1 < (sL1 : Int)) ∧
  onSome sA1 fun p1 =>
  ∃ cs1 : List Value, List.length cs1 = 2 ∧ Cells h3 (Addr.add p1 ((Int.toNat n1) * 2)) cs1 ∧
  NewRow z149 149 cs1 2 h3 fun h5 =>
  ∃ cs2 : List Value, List.length cs2 = 2 ∧ Cells h5 ⟨h3.size, 0, none⟩ cs2 ∧
  C.bmap_file_number f1 cs2 at1 h5 fun r2 h6 =>
  ∃ (n2 : Int) (sA2 : Option Addr) (sL2 : Nat) (sC2 : Nat) (n3 : Int), r2 = .tuple #[.int .i64 n2, .slice sA2 sL2 sC2, .int .i64 n3] ∧
  bif (n3 == 0) then (
  bif (n2 == 0) then (
  ∃ cs3 : List Value, List.length cs3 = 2 ∧ Cells h6 ⟨h3.size, 0, none⟩ cs3 ∧
  HCallsV Tryz.prog hole1 [.agg ⟨cs3⟩, .int .i64 at1, .slice sA2 sL2 sC2] h6 fun r3 h7 =>
  ∃ (n4 : Int) (n5 : Int), r3 = .tuple #[.int .i64 n4, .int .i64 n5] ∧
  bmap_file_walk.k1 f1 at1 n1 h3 I1 M1 n4 n5 h7 K) else (
  bmap_file_walk.k1 f1 at1 n1 h3 I1 M1 n2 n3 h6 K)) else (
  bmap_file_walk.k1 f1 at1 n1 h3 I1 M1 n2 n3 h6 K)) else (
  K (.tuple #[.int .i64 at1, .int .i64 0]) h3)
def bmap_file_walk.lo : Nat → List Nat × List (Nat × Ty) := fun n => match n with | 3 => ([0, 2, 16, 17], [(8, .int .i64), (18, .int .i64)]) | _ => ([], [])
def bmap_file_walk.od : Nat → Od := fun n => match n with | _ => .nil
theorem bmap_file_walk.eq (f1 : Option Addr) (k1 : Int) (hole1 : Value) (K : Value → Heap → Prop) (h : Heap) : fnX (cx bmap_file_walk.lo bmap_file_walk.od) Tryz.f65 (Tryz.f65.body.getD .skip) [.pointer f1, .int .i64 k1, hole1] K h = bmap_file_walk f1 k1 hole1 K h := by kernel_rfl
theorem bmap_file_walk.chk : fnOk (cx bmap_file_walk.lo bmap_file_walk.od) Tryz.f65 (Tryz.f65.body.getD .skip) 3 = true := by kernel_rfl
theorem bmap_file_walk.ok {f1 : Option Addr} {k1 : Int} {hole1 : Value} {K : Value → Heap → Prop} {h : Heap} (hx : bmap_file_walk f1 k1 hole1 K h) : C.bmap_file_walk f1 k1 hole1 h K :=
  fn_to (cxOk _ _) Tryz.func65 (by kernel_rfl) bmap_file_walk.chk (by rw [bmap_file_walk.eq]; exact hx)

-- 66
def bmap_Find_c1 (x1 : List Value) (x2 : Int) (xA1 : Option Addr) (xL1 : Nat) (xC1 : Nat) (K : Value → Heap → Prop) (h1 : Heap) : Prop :=
  New x1 149 h1 fun h2 =>
  K (.tuple #[.int .i64 0, .int .i64 0]) h2
def bmap_Find_c1.lo : Nat → List Nat × List (Nat × Ty) := fun n => match n with | _ => ([], [])
def bmap_Find_c1.od : Nat → Od := fun n => match n with | _ => .nil
theorem bmap_Find_c1.eq (x1 : List Value) (x2 : Int) (xA1 : Option Addr) (xL1 : Nat) (xC1 : Nat) (K : Value → Heap → Prop) (h : Heap) : fnX (cx bmap_Find_c1.lo bmap_Find_c1.od) Tryz.f66 (Tryz.f66.body.getD .skip) [.agg ⟨x1⟩, .int .i64 x2, .slice xA1 xL1 xC1] K h = bmap_Find_c1 x1 x2 xA1 xL1 xC1 K h := by kernel_rfl
theorem bmap_Find_c1.chk : fnOk (cx bmap_Find_c1.lo bmap_Find_c1.od) Tryz.f66 (Tryz.f66.body.getD .skip) 3 = true := by kernel_rfl
theorem bmap_Find_c1.ok {x1 : List Value} {x2 : Int} {xA1 : Option Addr} {xL1 : Nat} {xC1 : Nat} {K : Value → Heap → Prop} {h : Heap} (hx : bmap_Find_c1 x1 x2 xA1 xL1 xC1 K h) : C.bmap_Find_c1 x1 x2 xA1 xL1 xC1 h K :=
  fn_to (cxOk _ _) Tryz.func66 (by kernel_rfl) bmap_Find_c1.chk (by rw [bmap_Find_c1.eq]; exact hx)

-- 71
def bmap_guard (t1 : Option Addr) (K : Value → Heap → Prop) (h1 : Heap) : Prop :=
  New [.pointer t1] 23 h1 fun h2 =>
  ∃ (q1 : Option Addr), cellOf h2 ⟨h1.size, 0, none⟩ = some (.pointer q1) ∧
  C.txn_Txn_Mark q1 h2 fun r1 h3 =>
  ∃ (n1 : Int) (n2 : Int), r1 = .tuple #[.int .i64 n1, .int .i64 n2] ∧
  New z3 3 h3 fun h4 =>
  New z28 28 h4 fun h5 =>
  Put ⟨h3.size, 0, none⟩ (.int .i64 n1) h5 fun h6 =>
  Put ⟨h4.size, 0, none⟩ (.int .i64 n2) h6 fun h7 =>
  K (.func (.func 121) #[] ⟨[.pointer (some ⟨h4.size, 0, none⟩), .pointer (some ⟨h1.size, 0, none⟩), .pointer (some ⟨h3.size, 0, none⟩)]⟩) h7
def bmap_guard.lo : Nat → List Nat × List (Nat × Ty) := fun n => match n with | _ => ([], [])
def bmap_guard.od : Nat → Od := fun n => match n with | _ => .nil
theorem bmap_guard.eq (t1 : Option Addr) (K : Value → Heap → Prop) (h : Heap) : fnX (cx bmap_guard.lo bmap_guard.od) Tryz.f71 (Tryz.f71.body.getD .skip) [.pointer t1] K h = bmap_guard t1 K h := by kernel_rfl
theorem bmap_guard.chk : fnOk (cx bmap_guard.lo bmap_guard.od) Tryz.f71 (Tryz.f71.body.getD .skip) 1 = true := by kernel_rfl
theorem bmap_guard.ok {t1 : Option Addr} {K : Value → Heap → Prop} {h : Heap} (hx : bmap_guard t1 K h) : C.bmap_guard t1 h K :=
  fn_to (cxOk _ _) Tryz.func71 (by kernel_rfl) bmap_guard.chk (by rw [bmap_guard.eq]; exact hx)

-- 72
def bmap_Add_c1 (cap1 : Option Addr) (cap2 : Option Addr) (cap3 : Option Addr) (cap4 : Option Addr) (K : Value → Heap → Prop) (h1 : Heap) : Prop :=
  onSome cap1 fun p1 =>
  ∃ (v1 : Value), cellOf h1 p1 = some (v1) ∧
  onSome cap2 fun p2 =>
  ∃ (n1 : Int), cellOf h1 p2 = some (.int .i64 n1) ∧
  HCallsV Tryz.prog v1 [.int .i64 n1] h1 fun r1 h2 =>
  r1 = .tuple #[] ∧
  onSome cap2 fun p3 =>
  ∃ (n2 : Int), cellOf h2 p3 = some (.int .i64 n2) ∧
  bif (n2 != 0) then (
  onSome cap3 fun p4 =>
  PutRow p4 [.int .i64 0, .int .i64 0, .int .i64 0, .int .i64 0, .int .i64 0, .int .i64 0, .int .i64 0, .int .i64 0, .int .i64 0, .int .i64 0, .int .i64 0, .int .i64 0, .int .i64 0, .int .i64 0, .int .i64 0] 15 h2 fun h3 =>
  onSome cap4 fun p5 =>
  Put p5 (.int .i64 0) h3 fun h4 =>
  K (.tuple #[]) h4) else (
  K (.tuple #[]) h2)
def bmap_Add_c1.lo : Nat → List Nat × List (Nat × Ty) := fun n => match n with | _ => ([], [])
def bmap_Add_c1.od : Nat → Od := fun n => match n with | _ => .nil
theorem bmap_Add_c1.eq (cap1 : Option Addr) (cap2 : Option Addr) (cap3 : Option Addr) (cap4 : Option Addr) (K : Value → Heap → Prop) (h : Heap) : fnX (cx bmap_Add_c1.lo bmap_Add_c1.od) Tryz.f72 (Tryz.f72.body.getD .skip) [.pointer cap1, .pointer cap2, .pointer cap3, .pointer cap4] K h = bmap_Add_c1 cap1 cap2 cap3 cap4 K h := by kernel_rfl
theorem bmap_Add_c1.chk : fnOk (cx bmap_Add_c1.lo bmap_Add_c1.od) Tryz.f72 (Tryz.f72.body.getD .skip) 4 = true := by kernel_rfl
theorem bmap_Add_c1.ok {cap1 : Option Addr} {cap2 : Option Addr} {cap3 : Option Addr} {cap4 : Option Addr} {K : Value → Heap → Prop} {h : Heap} (hx : bmap_Add_c1 cap1 cap2 cap3 cap4 K h) : C.bmap_Add_c1 cap1 cap2 cap3 cap4 h K :=
  fn_to (cxOk _ _) Tryz.func72 (by kernel_rfl) bmap_Add_c1.chk (by rw [bmap_Add_c1.eq]; exact hx)
theorem bmap_Add_c1.chkD : fnOkD (cx bmap_Add_c1.lo bmap_Add_c1.od) Tryz.f72 (Tryz.f72.body.getD .skip) 4 = true := by kernel_rfl
theorem bmap_Add_c1.okD {cap1 : Option Addr} {cap2 : Option Addr} {cap3 : Option Addr} {cap4 : Option Addr} {K : Heap → Prop} {h : Heap} (hx : bmap_Add_c1 cap1 cap2 cap3 cap4 (fun _ h' => K h') h) : D.bmap_Add_c1 cap1 cap2 cap3 cap4 h K :=
  fnD_to (cxOk _ _) Tryz.func72 (by kernel_rfl) bmap_Add_c1.chkD (by rw [bmap_Add_c1.eq]; exact hx)

-- 73
def bmap_Add_c2 (s1 : List Value) (at1 : Int) (bA1 : Option Addr) (bL1 : Nat) (bC1 : Nat) (cap1 : Option Addr) (cap2 : Option Addr) (cap3 : Option Addr) (K : Value → Heap → Prop) (h1 : Heap) : Prop :=
  New s1 149 h1 fun h2 =>
  onSome cap1 fun p1 =>
  ∃ (q1 : Option Addr), cellOf h2 p1 = some (.pointer q1) ∧
  onSome cap2 fun p2 =>
  ∃ cs1 : List Value, List.length cs1 = 5 ∧ Cells h2 p2 cs1 ∧
  C.space_Take q1 cs1 h2 fun r1 h3 =>
  ∃ (n1 : Int) (n2 : Int), r1 = .tuple #[.int .i64 n1, .int .i64 n2] ∧
  bif (n2 != 0) then (
  K (.tuple #[.int .i64 0, .int .i64 n2]) h3) else (
  onSome cap3 fun p3 =>
  ∃ (q2 : Option Addr), cellOf h3 p3 = some (.pointer q2) ∧
  ∃ cs2 : List Value, List.length cs2 = 2 ∧ Cells h3 ⟨h1.size, 0, none⟩ cs2 ∧
  C.bmap_file_set q2 cs2 at1 bA1 bL1 bC1 n1 h3 fun r2 h4 =>
  ∃ (n3 : Int), r2 = .int .i64 n3 ∧
  K (.tuple #[.int .i64 n1, .int .i64 n3]) h4)
def bmap_Add_c2.lo : Nat → List Nat × List (Nat × Ty) := fun n => match n with | _ => ([], [])
def bmap_Add_c2.od : Nat → Od := fun n => match n with | _ => .nil
theorem bmap_Add_c2.eq (s1 : List Value) (at1 : Int) (bA1 : Option Addr) (bL1 : Nat) (bC1 : Nat) (cap1 : Option Addr) (cap2 : Option Addr) (cap3 : Option Addr) (K : Value → Heap → Prop) (h : Heap) : fnX (cx bmap_Add_c2.lo bmap_Add_c2.od) Tryz.f73 (Tryz.f73.body.getD .skip) [.agg ⟨s1⟩, .int .i64 at1, .slice bA1 bL1 bC1, .pointer cap1, .pointer cap2, .pointer cap3] K h = bmap_Add_c2 s1 at1 bA1 bL1 bC1 cap1 cap2 cap3 K h := by kernel_rfl
theorem bmap_Add_c2.chk : fnOk (cx bmap_Add_c2.lo bmap_Add_c2.od) Tryz.f73 (Tryz.f73.body.getD .skip) 6 = true := by kernel_rfl
theorem bmap_Add_c2.ok {s1 : List Value} {at1 : Int} {bA1 : Option Addr} {bL1 : Nat} {bC1 : Nat} {cap1 : Option Addr} {cap2 : Option Addr} {cap3 : Option Addr} {K : Value → Heap → Prop} {h : Heap} (hx : bmap_Add_c2 s1 at1 bA1 bL1 bC1 cap1 cap2 cap3 K h) : C.bmap_Add_c2 s1 at1 bA1 bL1 bC1 cap1 cap2 cap3 h K :=
  fn_to (cxOk _ _) Tryz.func73 (by kernel_rfl) bmap_Add_c2.chk (by rw [bmap_Add_c2.eq]; exact hx)
-- 74
def space_Take (t1 : Option Addr) (g1 : List Value) (K : Value → Heap → Prop) (h1 : Heap) : Prop :=
  New [.pointer t1] 23 h1 fun h2 =>
  New g1 25 h2 fun h3 =>
  New z28 28 h3 fun h4 =>
  New z3 3 h4 fun h5 =>
  Put ⟨h4.size, 0, none⟩ (.int .i64 0) h5 fun h6 =>
  ∃ (q1 : Option Addr), cellOf h6 ⟨h1.size, 0, none⟩ = some (.pointer q1) ∧
  ∃ cs1 : List Value, List.length cs1 = 5 ∧ Cells h6 ⟨h2.size, 0, none⟩ cs1 ∧
  C.space_each q1 cs1 (Value.func (.func 122) #[] ⟨[.pointer (some ⟨h2.size, 0, none⟩), .pointer (some ⟨h4.size, 0, none⟩)]⟩) h6 fun r1 h7 =>
  ∃ (n1 : Int), r1 = .int .i64 n1 ∧
  Put ⟨h3.size, 0, none⟩ (.int .i64 n1) h7 fun h8 =>
  ∃ (n2 : Int), cellOf h8 ⟨h3.size, 0, none⟩ = some (.int .i64 n2) ∧
  bif (n2 != 0) then (
  ∃ (n3 : Int), cellOf h8 ⟨h3.size, 0, none⟩ = some (.int .i64 n3) ∧
  Put ⟨h3.size, 0, none⟩ (.int .i64 n3) h8 fun h9 =>
  ∃ (res1 : Int), cellOf h9 ⟨h3.size, 0, none⟩ = some (.int .i64 res1) ∧
  K (.tuple #[.int .i64 0, .int .i64 res1]) h9) else (
  ∃ (n4 : Int), cellOf h8 ⟨h4.size, 0, none⟩ = some (.int .i64 n4) ∧
  bif (n4 == 0) then (
  Put ⟨h3.size, 0, none⟩ (.int .i64 90) h8 fun h10 =>
  ∃ (res2 : Int), cellOf h10 ⟨h3.size, 0, none⟩ = some (.int .i64 res2) ∧
  K (.tuple #[.int .i64 0, .int .i64 res2]) h10) else (
  ∃ (q2 : Option Addr), cellOf h8 ⟨h1.size, 0, none⟩ = some (.pointer q2) ∧
  C.txn_Txn_Mark q2 h8 fun r2 h11 =>
  ∃ (n5 : Int) (n6 : Int), r2 = .tuple #[.int .i64 n5, .int .i64 n6] ∧
  New z3 3 h11 fun h12 =>
  Put ⟨h11.size, 0, none⟩ (.int .i64 n5) h12 fun h13 =>
  Put ⟨h3.size, 0, none⟩ (.int .i64 n6) h13 fun h14 =>
  ∃ (n7 : Int), cellOf h14 ⟨h3.size, 0, none⟩ = some (.int .i64 n7) ∧
  bif (n7 != 0) then (
  ∃ (n8 : Int), cellOf h14 ⟨h3.size, 0, none⟩ = some (.int .i64 n8) ∧
  Put ⟨h3.size, 0, none⟩ (.int .i64 n8) h14 fun h15 =>
  ∃ (res3 : Int), cellOf h15 ⟨h3.size, 0, none⟩ = some (.int .i64 res3) ∧
  K (.tuple #[.int .i64 0, .int .i64 res3]) h15) else (
  ∃ (q3 : Option Addr), cellOf h14 ⟨h1.size, 0, none⟩ = some (.pointer q3) ∧
  ∃ cs2 : List Value, List.length cs2 = 5 ∧ Cells h14 ⟨h2.size, 0, none⟩ cs2 ∧
  ∃ (n9 : Int), cellOf h14 ⟨h4.size, 0, none⟩ = some (.int .i64 n9) ∧
  C.space_set q3 cs2 n9 true h14 fun r3 h16 =>
  ∃ (n10 : Int), r3 = .int .i64 n10 ∧
  Put ⟨h3.size, 0, none⟩ (.int .i64 n10) h16 fun h17 =>
  ∃ (n11 : Int), cellOf h17 ⟨h3.size, 0, none⟩ = some (.int .i64 n11) ∧
  bif (n11 != 0) then (
  ∃ (n12 : Int), cellOf h17 ⟨h3.size, 0, none⟩ = some (.int .i64 n12) ∧
  Put ⟨h3.size, 0, none⟩ (.int .i64 n12) h17 fun h18 =>
  D.space_Take_c2 (some ⟨h1.size, 0, none⟩) (some ⟨h11.size, 0, none⟩) (some ⟨h3.size, 0, none⟩) h18 fun h19 =>
  ∃ (res4 : Int), cellOf h19 ⟨h3.size, 0, none⟩ = some (.int .i64 res4) ∧
  K (.tuple #[.int .i64 0, .int .i64 res4]) h19) else (
  ∃ (q4 : Option Addr), cellOf h17 ⟨h1.size, 0, none⟩ = some (.pointer q4) ∧
  ∃ (n13 : Int), cellOf h17 ⟨h4.size, 0, none⟩ = some (.int .i64 n13) ∧
  (0 ≤ (512 : Int) ∧ (512 : Int) ≤ 512 ∧ (1 : Int) * 512 ≤ 281474976710656 ∧ (512 : Int) ≤ 281474976710656) ∧
  New (repCells z5 (Int.toNat 512)) 5 h17 fun h20 =>
  (cellOf h20 ⟨h1.size, 0, none⟩ = some (.pointer q4)) ∧
  (cellOf h20 ⟨h4.size, 0, none⟩ = some (.int .i64 n13)) ∧
  C.txn_Txn_Write q4 n13 (some ⟨h17.size, 0, none⟩) (Int.toNat 512) (Int.toNat 512) h20 fun r4 h21 =>
  ∃ (n14 : Int), r4 = .int .i64 n14 ∧
  Put ⟨h3.size, 0, none⟩ (.int .i64 n14) h21 fun h22 =>
  ∃ (n15 : Int), cellOf h22 ⟨h3.size, 0, none⟩ = some (.int .i64 n15) ∧
  bif (n15 != 0) then (
  ∃ (n16 : Int), cellOf h22 ⟨h3.size, 0, none⟩ = some (.int .i64 n16) ∧
  Put ⟨h3.size, 0, none⟩ (.int .i64 n16) h22 fun h23 =>
  D.space_Take_c2 (some ⟨h1.size, 0, none⟩) (some ⟨h11.size, 0, none⟩) (some ⟨h3.size, 0, none⟩) h23 fun h24 =>
  ∃ (res5 : Int), cellOf h24 ⟨h3.size, 0, none⟩ = some (.int .i64 res5) ∧
  K (.tuple #[.int .i64 0, .int .i64 res5]) h24) else (
  ∃ (n17 : Int), cellOf h22 ⟨h4.size, 0, none⟩ = some (.int .i64 n17) ∧
  Put ⟨h3.size, 0, none⟩ (.int .i64 0) h22 fun h25 =>
  D.space_Take_c2 (some ⟨h1.size, 0, none⟩) (some ⟨h11.size, 0, none⟩) (some ⟨h3.size, 0, none⟩) h25 fun h26 =>
  ∃ (res6 : Int), cellOf h26 ⟨h3.size, 0, none⟩ = some (.int .i64 res6) ∧
  K (.tuple #[.int .i64 n17, .int .i64 res6]) h26)))))
def space_Take.lo : Nat → List Nat × List (Nat × Ty) := fun n => match n with | _ => ([], [])
def space_Take.od : Nat → Od := fun n => match n with | 4 => (.op 0 [] (.op 1 [] (.op 2 [] .nil))) | 9 => (.op 0 [] (.op 1 [] (.op 2 [] .nil))) | 13 => (.op 0 [] (.op 1 [] (.op 2 [] .nil))) | 14 => (.op 0 [] (.op 1 [] (.op 2 [0, 1] (.op 3 [] (.op 4 [] .nil))))) | 16 => (.op 0 [] (.op 1 [] (.op 2 [] .nil))) | _ => .nil
theorem space_Take.eq (t1 : Option Addr) (g1 : List Value) (K : Value → Heap → Prop) (h : Heap) : fnX (cx space_Take.lo space_Take.od) Tryz.f74 (Tryz.f74.body.getD .skip) [.pointer t1, .agg ⟨g1⟩] K h = space_Take t1 g1 K h := by kernel_rfl
theorem space_Take.chk : fnOk (cx space_Take.lo space_Take.od) Tryz.f74 (Tryz.f74.body.getD .skip) 2 = true := by kernel_rfl
theorem space_Take.ok {t1 : Option Addr} {g1 : List Value} {K : Value → Heap → Prop} {h : Heap} (hx : space_Take t1 g1 K h) : C.space_Take t1 g1 h K :=
  fn_to (cxOk _ _) Tryz.func74 (by kernel_rfl) space_Take.chk (by rw [space_Take.eq]; exact hx)

-- 75
def bmap_file_set (f1 : Option Addr) (s1 : List Value) (at1 : Int) (bA1 : Option Addr) (bL1 : Nat) (bC1 : Nat) (num1 : Int) (K : Value → Heap → Prop) (h1 : Heap) : Prop :=
  New s1 149 h1 fun h2 =>
  ∃ (n1 : Int), cellOf h2 (Addr.add ⟨h1.size, 0, none⟩ 0) = some (.int .i64 n1) ∧
  bif (n1 != 3) then (
  ∃ cs1 : List Value, List.length cs1 = 2 ∧ Cells h2 ⟨h1.size, 0, none⟩ cs1 ∧
  C.bmap_file_own f1 cs1 h2 fun r1 h3 =>
  ∃ (q1 : Option Addr), r1 = .pointer q1 ∧
  onSome q1 fun p1 =>
  Put p1 (.int .i64 num1) h3 fun h4 =>
  K (.int .i64 0) h4) else (
  ∃ (n2 : Int), cellOf h2 (Addr.add ⟨h1.size, 0, none⟩ 1) = some (.int .i64 n2) ∧
  C.rec_Put bA1 bL1 bC1 (IntKind.wrap .i64 (4 * n2)) 4 (IntKind.wrap .u64 (num1)) h2 fun r2 h5 =>
  ∃ (n3 : Int), r2 = .int .i64 n3 ∧
  onSome f1 fun p2 =>
  ∃ (q2 : Option Addr), cellOf h5 (Addr.add p2 0) = some (.pointer q2) ∧
  C.txn_Txn_Write q2 at1 bA1 bL1 bC1 h5 fun r3 h6 =>
  ∃ (n4 : Int), r3 = .int .i64 n4 ∧
  K (.int .i64 n4) h6)
def bmap_file_set.lo : Nat → List Nat × List (Nat × Ty) := fun n => match n with | _ => ([], [])
def bmap_file_set.od : Nat → Od := fun n => match n with | _ => .nil
theorem bmap_file_set.eq (f1 : Option Addr) (s1 : List Value) (at1 : Int) (bA1 : Option Addr) (bL1 : Nat) (bC1 : Nat) (num1 : Int) (K : Value → Heap → Prop) (h : Heap) : fnX (cx bmap_file_set.lo bmap_file_set.od) Tryz.f75 (Tryz.f75.body.getD .skip) [.pointer f1, .agg ⟨s1⟩, .int .i64 at1, .slice bA1 bL1 bC1, .int .i64 num1] K h = bmap_file_set f1 s1 at1 bA1 bL1 bC1 num1 K h := by kernel_rfl
theorem bmap_file_set.chk : fnOk (cx bmap_file_set.lo bmap_file_set.od) Tryz.f75 (Tryz.f75.body.getD .skip) 5 = true := by kernel_rfl
theorem bmap_file_set.ok {f1 : Option Addr} {s1 : List Value} {at1 : Int} {bA1 : Option Addr} {bL1 : Nat} {bC1 : Nat} {num1 : Int} {K : Value → Heap → Prop} {h : Heap} (hx : bmap_file_set f1 s1 at1 bA1 bL1 bC1 num1 K h) : C.bmap_file_set f1 s1 at1 bA1 bL1 bC1 num1 h K :=
  fn_to (cxOk _ _) Tryz.func75 (by kernel_rfl) bmap_file_set.chk (by rw [bmap_file_set.eq]; exact hx)

-- 77
def bmap_Cut_c1 (cap1 : Option Addr) (cap2 : Option Addr) (cap3 : Option Addr) (K : Value → Heap → Prop) (h1 : Heap) : Prop :=
  onSome cap1 fun p1 =>
  ∃ (v1 : Value), cellOf h1 p1 = some (v1) ∧
  onSome cap2 fun p2 =>
  ∃ (n1 : Int), cellOf h1 p2 = some (.int .i64 n1) ∧
  HCallsV Tryz.prog v1 [.int .i64 n1] h1 fun r1 h2 =>
  r1 = .tuple #[] ∧
  onSome cap2 fun p3 =>
  ∃ (n2 : Int), cellOf h2 p3 = some (.int .i64 n2) ∧
  bif (n2 != 0) then (
  onSome cap3 fun p4 =>
  PutRow p4 [.int .i64 0, .int .i64 0, .int .i64 0, .int .i64 0, .int .i64 0, .int .i64 0, .int .i64 0, .int .i64 0, .int .i64 0, .int .i64 0, .int .i64 0, .int .i64 0, .int .i64 0, .int .i64 0, .int .i64 0] 15 h2 fun h3 =>
  K (.tuple #[]) h3) else (
  K (.tuple #[]) h2)
def bmap_Cut_c1.lo : Nat → List Nat × List (Nat × Ty) := fun n => match n with | _ => ([], [])
def bmap_Cut_c1.od : Nat → Od := fun n => match n with | _ => .nil
theorem bmap_Cut_c1.eq (cap1 : Option Addr) (cap2 : Option Addr) (cap3 : Option Addr) (K : Value → Heap → Prop) (h : Heap) : fnX (cx bmap_Cut_c1.lo bmap_Cut_c1.od) Tryz.f77 (Tryz.f77.body.getD .skip) [.pointer cap1, .pointer cap2, .pointer cap3] K h = bmap_Cut_c1 cap1 cap2 cap3 K h := by kernel_rfl
theorem bmap_Cut_c1.chk : fnOk (cx bmap_Cut_c1.lo bmap_Cut_c1.od) Tryz.f77 (Tryz.f77.body.getD .skip) 3 = true := by kernel_rfl
theorem bmap_Cut_c1.ok {cap1 : Option Addr} {cap2 : Option Addr} {cap3 : Option Addr} {K : Value → Heap → Prop} {h : Heap} (hx : bmap_Cut_c1 cap1 cap2 cap3 K h) : C.bmap_Cut_c1 cap1 cap2 cap3 h K :=
  fn_to (cxOk _ _) Tryz.func77 (by kernel_rfl) bmap_Cut_c1.chk (by rw [bmap_Cut_c1.eq]; exact hx)
theorem bmap_Cut_c1.chkD : fnOkD (cx bmap_Cut_c1.lo bmap_Cut_c1.od) Tryz.f77 (Tryz.f77.body.getD .skip) 3 = true := by kernel_rfl
theorem bmap_Cut_c1.okD {cap1 : Option Addr} {cap2 : Option Addr} {cap3 : Option Addr} {K : Heap → Prop} {h : Heap} (hx : bmap_Cut_c1 cap1 cap2 cap3 (fun _ h' => K h') h) : D.bmap_Cut_c1 cap1 cap2 cap3 h K :=
  fnD_to (cxOk _ _) Tryz.func77 (by kernel_rfl) bmap_Cut_c1.chkD (by rw [bmap_Cut_c1.eq]; exact hx)

-- 78
def bmap_file_give (f1 : Option Addr) (num1 : Int) (K : Value → Heap → Prop) (h1 : Heap) : Prop :=
  C.bmap_file_look f1 num1 h1 fun r1 h2 =>
  ∃ (n1 : Int), r1 = .int .i64 n1 ∧
  bif (n1 != 0) then (
  K (.int .i64 n1) h2) else (
  onSome f1 fun p1 =>
  ∃ (q1 : Option Addr), cellOf h2 (Addr.add p1 0) = some (.pointer q1) ∧
  onSome f1 fun p2 =>
  ∃ cs1 : List Value, List.length cs1 = 5 ∧ Cells h2 (Addr.add p2 1) cs1 ∧
  C.space_Give q1 cs1 num1 h2 fun r2 h3 =>
  ∃ (n2 : Int), r2 = .int .i64 n2 ∧
  K (.int .i64 n2) h3)
def bmap_file_give.lo : Nat → List Nat × List (Nat × Ty) := fun n => match n with | _ => ([], [])
def bmap_file_give.od : Nat → Od := fun n => match n with | 4 => (.op 0 [] (.op 1 [] (.op 2 [] (.op 3 [] (.op 4 [] (.op 5 [] (.op 6 [] (.op 7 [] (.op 8 [] (.op 9 [] (.op 10 [] .nil))))))))))) | _ => .nil
theorem bmap_file_give.eq (f1 : Option Addr) (num1 : Int) (K : Value → Heap → Prop) (h : Heap) : fnX (cx bmap_file_give.lo bmap_file_give.od) Tryz.f78 (Tryz.f78.body.getD .skip) [.pointer f1, .int .i64 num1] K h = bmap_file_give f1 num1 K h := by kernel_rfl
theorem bmap_file_give.chk : fnOk (cx bmap_file_give.lo bmap_file_give.od) Tryz.f78 (Tryz.f78.body.getD .skip) 2 = true := by kernel_rfl
theorem bmap_file_give.ok {f1 : Option Addr} {num1 : Int} {K : Value → Heap → Prop} {h : Heap} (hx : bmap_file_give f1 num1 K h) : C.bmap_file_give f1 num1 h K :=
  fn_to (cxOk _ _) Tryz.func78 (by kernel_rfl) bmap_file_give.chk (by rw [bmap_file_give.eq]; exact hx)

end Go.Proofs.YtcdpakjhjmchhaaGreatDoor.W
